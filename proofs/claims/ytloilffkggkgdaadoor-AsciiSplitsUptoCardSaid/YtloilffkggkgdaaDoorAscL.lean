/-
  more and sequence of the reference: the length of the valid sequence at an index.
-/
import Derived.Test.YtloilffkggkgdaaDoorAscK
namespace Go.Proofs.YtloilffkggkgdaaDoor
open Go.RowKit

theorem more_yes (blk off cap : Nat) (bs : List UInt8) (i lo hi : Nat) (w : World) (hc : BA w blk off bs) (hi' : i < bs.length) :
    Calls Tryd.prog 48 #[.slice (some ⟨blk, off, none⟩) bs.length cap, .int .i64 i, .int .u8 lo, .int .u8 hi] w fun e w' => e = .returned (.bool (Asc.inAt bs i lo hi)) ∧ w = w' := by
  have c := hc i hi'
  have hf := Lib.hid (Asc.inAt_iff bs i lo hi)
  generalize Asc.inAt bs i lo hi = r at *
  generalize Asc.at_ bs i = x at *
  clear hc
  by_cases a : lo ≤ x
  · by_cases b : x ≤ hi
    · have hr : r = true := hf.out.2 ⟨a, b⟩
      subst hr
      go_enter Tryd.func48, Tryd.ntmps48
      go_wp2_with fail
      go_ret
      exact ⟨rfl, rfl⟩
    · have hr : r = false := by rw [Bool.eq_false_iff]; exact fun e => b (hf.out.1 e).2
      subst hr
      go_enter Tryd.func48, Tryd.ntmps48
      go_wp2_with fail
      go_ret
      exact ⟨ret_bool (by first | rfl | (simp; omega)), rfl⟩
  · have hr : r = false := by rw [Bool.eq_false_iff]; exact fun e => a (hf.out.1 e).1
    subst hr
    go_enter Tryd.func48, Tryd.ntmps48
    go_wp2_with fail
    go_ret
    exact ⟨rfl, rfl⟩

theorem more_no (cap : Nat) (a : Option Addr) (bs : List UInt8) (i lo hi : Nat) (w : World) (hh : hi ≤ 255) (hi' : bs.length ≤ i) :
    Calls Tryd.prog 48 #[.slice a bs.length cap, .int .i64 i, .int .u8 lo, .int .u8 hi] w fun e w' => e = .returned (.bool (Asc.inAt bs i lo hi)) ∧ w = w' := by
  have hf := Lib.hid (show Asc.inAt bs i lo hi = false by rw [Bool.eq_false_iff]; intro e; rw [Asc.inAt_iff, Asc.at_none hi'] at e; omega)
  go_enter Tryd.func48, Tryd.ntmps48
  go_wp2_with fail
  go_ret
  exact ⟨ret_bool hf.out.symm, rfl⟩

/-- 'more' at an index k + d of the bytes that begin at k. -/
theorem more_int (blk off cap : Nat) (bs : List UInt8) (k d : Nat) (i lo hi : Int) (w : World) (hc : BA w blk off bs) (i0 : i = (k : Int) + (d : Int)) (l0 : 0 ≤ lo) (h0 : 0 ≤ hi) (h1 : hi ≤ 255) :
    Calls Tryd.prog 48 #[.slice (some ⟨blk, off, none⟩) bs.length cap, .int .i64 i, .int .u8 lo, .int .u8 hi] w fun e w' => e = .returned (.bool (Asc.inAt (bs.drop k) d lo.toNat hi.toNat)) ∧ w = w' := by
  obtain ⟨lo, rfl⟩ := Int.eq_ofNat_of_zero_le l0
  obtain ⟨hi, rfl⟩ := Int.eq_ofNat_of_zero_le h0
  obtain rfl : i = ((k + d : Nat) : Int) := by omega
  have e : Asc.inAt (bs.drop k) d lo hi = Asc.inAt bs (k + d) lo hi := by unfold Asc.inAt Asc.at_; rw [List.getElem?_drop]
  show Calls _ _ _ _ fun e w' => e = .returned (.bool (Asc.inAt (bs.drop k) d lo hi)) ∧ w = w'
  rw [e]
  rcases Nat.lt_or_ge (k + d) bs.length with h | h
  · exact more_yes blk off cap bs (k + d) lo hi w hc h
  · exact more_no cap _ bs (k + d) lo hi w (by omega) h

namespace Asc
theorem vl1 {l : List UInt8} {c : Nat} (e : at_ l 0 = c) (h : c < 128) : vlen l = 1 := vlen_1 (by omega)
theorem vl0 {l : List UInt8} {c : Nat} (e : at_ l 0 = c) (h : 128 ≤ c) (h2 : c < 194 ∨ 245 ≤ c) : vlen l = 0 := vlen_0 (by omega) (by omega)
theorem vl2 {l : List UInt8} {c : Nat} (e : at_ l 0 = c) (h : 194 ≤ c) (h2 : c < 224) : vlen l = if inAt l 1 128 191 then 2 else 0 := by
  unfold vlen; simp only; rw [e, if_neg (by omega), if_neg (by omega), if_pos h2]
theorem vl3 {l : List UInt8} {c lo hi : Nat} (e : at_ l 0 = c) (h : 224 ≤ c) (h2 : c < 240) (hl : lo1 c = lo) (hh : hi1 c = hi) : vlen l = if inAt l 1 lo hi && inAt l 2 128 191 then 3 else 0 := by
  unfold vlen; simp only; rw [e, if_neg (by omega), if_neg (by omega), if_neg (by omega), if_pos h2, hl, hh]
theorem vl4 {l : List UInt8} {c lo hi : Nat} (e : at_ l 0 = c) (h : 240 ≤ c) (h2 : c < 245) (hl : lo1 c = lo) (hh : hi1 c = hi) : vlen l = if inAt l 1 lo hi && (inAt l 2 128 191 && inAt l 3 128 191) then 4 else 0 := by
  unfold vlen; simp only; rw [e, if_neg (by omega), if_neg (by omega), if_neg (by omega), if_neg (by omega), if_pos h2, hl, hh]
theorem lo_other {c : Nat} (h : c ≠ 224) (h2 : c ≠ 240) : lo1 c = 128 := by unfold lo1; rw [if_neg h, if_neg h2]
theorem hi_other {c : Nat} (h : c ≠ 237) (h2 : c ≠ 244) : hi1 c = 191 := by unfold hi1; rw [if_neg h, if_neg h2]
end Asc

set_option maxRecDepth 100000 in
set_option maxHeartbeats 2000000 in
theorem seq_1 (blk off cap k : Nat) (bs : List UInt8) (w : World) (hc : BA w blk off bs) (hk : k < bs.length) (c : Nat) (hcv : Asc.at_ (bs.drop k) 0 = c) (h1 : c < 128) :
    Calls Tryd.prog 37 #[.slice (some ⟨blk, off, none⟩) bs.length cap, .int .i64 k] w fun e w' => e = .returned (.int .i64 (Asc.vlen (bs.drop k))) ∧ w = w' := by
  have c0 := hc k hk
  have hcv' : Asc.at_ bs k = c := by have e := hcv; unfold Asc.at_ at e; rw [List.getElem?_drop, Nat.add_zero] at e; exact e
  rw [hcv'] at c0
  have HB := Lib.hid hc
  have hv := Lib.hid (Asc.vl1 hcv h1)
  have r224 : ((c : Int) == 224) = false := by rw [beq_eq_false_iff_ne]; omega
  have r237 : ((c : Int) == 237) = false := by rw [beq_eq_false_iff_ne]; omega
  have r240 : ((c : Int) == 240) = false := by rw [beq_eq_false_iff_ne]; omega
  have r244 : ((c : Int) == 244) = false := by rw [beq_eq_false_iff_ne]; omega
  clear hc hcv hcv' HB
  go_enter Tryd.func37, Tryd.ntmps37
  go_wp2_with fail
  go_ret
  exact ⟨ret_int (by rw [hv.out]; rfl), rfl⟩

set_option maxRecDepth 100000 in
set_option maxHeartbeats 2000000 in
theorem seq_0a (blk off cap k : Nat) (bs : List UInt8) (w : World) (hc : BA w blk off bs) (hk : k < bs.length) (c : Nat) (hcv : Asc.at_ (bs.drop k) 0 = c) (h1 : 128 ≤ c) (h2 : c < 194) :
    Calls Tryd.prog 37 #[.slice (some ⟨blk, off, none⟩) bs.length cap, .int .i64 k] w fun e w' => e = .returned (.int .i64 (Asc.vlen (bs.drop k))) ∧ w = w' := by
  have c0 := hc k hk
  have hcv' : Asc.at_ bs k = c := by have e := hcv; unfold Asc.at_ at e; rw [List.getElem?_drop, Nat.add_zero] at e; exact e
  rw [hcv'] at c0
  have HB := Lib.hid hc
  have hv := Lib.hid (Asc.vl0 hcv h1 (.inl h2))
  have r224 : ((c : Int) == 224) = false := by rw [beq_eq_false_iff_ne]; omega
  have r237 : ((c : Int) == 237) = false := by rw [beq_eq_false_iff_ne]; omega
  have r240 : ((c : Int) == 240) = false := by rw [beq_eq_false_iff_ne]; omega
  have r244 : ((c : Int) == 244) = false := by rw [beq_eq_false_iff_ne]; omega
  clear hc hcv hcv' HB
  go_enter Tryd.func37, Tryd.ntmps37
  go_wp2_with fail
  go_ret
  exact ⟨ret_int (by rw [hv.out]; rfl), rfl⟩

set_option maxRecDepth 100000 in
set_option maxHeartbeats 2000000 in
theorem seq_0b (blk off cap k : Nat) (bs : List UInt8) (w : World) (hc : BA w blk off bs) (hk : k < bs.length) (c : Nat) (hcv : Asc.at_ (bs.drop k) 0 = c) (h1 : 245 ≤ c) :
    Calls Tryd.prog 37 #[.slice (some ⟨blk, off, none⟩) bs.length cap, .int .i64 k] w fun e w' => e = .returned (.int .i64 (Asc.vlen (bs.drop k))) ∧ w = w' := by
  have c0 := hc k hk
  have hcv' : Asc.at_ bs k = c := by have e := hcv; unfold Asc.at_ at e; rw [List.getElem?_drop, Nat.add_zero] at e; exact e
  rw [hcv'] at c0
  have HB := Lib.hid hc
  have hv := Lib.hid (Asc.vl0 hcv (by omega) (.inr h1))
  have r224 : ((c : Int) == 224) = false := by rw [beq_eq_false_iff_ne]; omega
  have r237 : ((c : Int) == 237) = false := by rw [beq_eq_false_iff_ne]; omega
  have r240 : ((c : Int) == 240) = false := by rw [beq_eq_false_iff_ne]; omega
  have r244 : ((c : Int) == 244) = false := by rw [beq_eq_false_iff_ne]; omega
  clear hc hcv hcv' HB
  go_enter Tryd.func37, Tryd.ntmps37
  go_wp2_with fail
  go_ret
  exact ⟨ret_int (by rw [hv.out]; rfl), rfl⟩

set_option maxRecDepth 100000 in
set_option maxHeartbeats 2000000 in
theorem seq_2 (blk off cap k : Nat) (bs : List UInt8) (w : World) (hc : BA w blk off bs) (hk : k < bs.length) (hn : bs.length ≤ 140737488351232) (c : Nat) (hcv : Asc.at_ (bs.drop k) 0 = c) (h1 : 194 ≤ c) (h2 : c < 224) :
    Calls Tryd.prog 37 #[.slice (some ⟨blk, off, none⟩) bs.length cap, .int .i64 k] w fun e w' => e = .returned (.int .i64 (Asc.vlen (bs.drop k))) ∧ w = w' := by
  have c0 := hc k hk
  have hcv' : Asc.at_ bs k = c := by have e := hcv; unfold Asc.at_ at e; rw [List.getElem?_drop, Nat.add_zero] at e; exact e
  rw [hcv'] at c0
  have HB := Lib.hid hc
  have hv := Lib.hid (Asc.vl2 hcv h1 h2)
  have r224 : ((c : Int) == 224) = false := by rw [beq_eq_false_iff_ne]; omega
  have r237 : ((c : Int) == 237) = false := by rw [beq_eq_false_iff_ne]; omega
  have r240 : ((c : Int) == 240) = false := by rw [beq_eq_false_iff_ne]; omega
  have r244 : ((c : Int) == 244) = false := by rw [beq_eq_false_iff_ne]; omega
  clear hc hcv hcv'
  cases b1 : Asc.inAt (bs.drop k) 1 128 191
  all_goals
    have h := hv.out
    rw [b1] at h
    have hv2 := Lib.hid h
    clear hv h
    go_enter Tryd.func37, Tryd.ntmps37
    go_wp2_with ((go_at_call 48; first | (refine (more_int blk off cap bs k 1 _ _ _ _ HB.out (by omega) (by omega) (by omega) (by omega)).mono ?_; rintro e w' ⟨rfl, rfl⟩) | (refine (more_int blk off cap bs k 2 _ _ _ _ HB.out (by omega) (by omega) (by omega) (by omega)).mono ?_; rintro e w' ⟨rfl, rfl⟩) | (refine (more_int blk off cap bs k 3 _ _ _ _ HB.out (by omega) (by omega) (by omega) (by omega)).mono ?_; rintro e w' ⟨rfl, rfl⟩)))
    go_ret
    exact ⟨ret_int (by rw [hv2.out]; rfl), rfl⟩

set_option maxRecDepth 100000 in
set_option maxHeartbeats 2000000 in
theorem seq_3 (blk off cap k : Nat) (bs : List UInt8) (w : World) (hc : BA w blk off bs) (hk : k < bs.length) (hn : bs.length ≤ 140737488351232) (c : Nat) (hcv : Asc.at_ (bs.drop k) 0 = c) (h1 : 225 ≤ c) (h2 : c < 240) (h3 : c ≠ 237) :
    Calls Tryd.prog 37 #[.slice (some ⟨blk, off, none⟩) bs.length cap, .int .i64 k] w fun e w' => e = .returned (.int .i64 (Asc.vlen (bs.drop k))) ∧ w = w' := by
  have c0 := hc k hk
  have hcv' : Asc.at_ bs k = c := by have e := hcv; unfold Asc.at_ at e; rw [List.getElem?_drop, Nat.add_zero] at e; exact e
  rw [hcv'] at c0
  have HB := Lib.hid hc
  have hv := Lib.hid (Asc.vl3 hcv (by omega) h2 (Asc.lo_other (by omega) (by omega)) (Asc.hi_other (by omega) (by omega)))
  have r224 : ((c : Int) == 224) = false := by rw [beq_eq_false_iff_ne]; omega
  have r237 : ((c : Int) == 237) = false := by rw [beq_eq_false_iff_ne]; omega
  have r240 : ((c : Int) == 240) = false := by rw [beq_eq_false_iff_ne]; omega
  have r244 : ((c : Int) == 244) = false := by rw [beq_eq_false_iff_ne]; omega
  clear hc hcv hcv'
  cases b1 : Asc.inAt (bs.drop k) 1 128 191 <;> cases b2 : Asc.inAt (bs.drop k) 2 128 191
  all_goals
    have h := hv.out
    rw [b1, b2] at h
    have hv2 := Lib.hid h
    clear hv h
    go_enter Tryd.func37, Tryd.ntmps37
    go_wp2_with ((go_at_call 48; first | (refine (more_int blk off cap bs k 1 _ _ _ _ HB.out (by omega) (by omega) (by omega) (by omega)).mono ?_; rintro e w' ⟨rfl, rfl⟩) | (refine (more_int blk off cap bs k 2 _ _ _ _ HB.out (by omega) (by omega) (by omega) (by omega)).mono ?_; rintro e w' ⟨rfl, rfl⟩) | (refine (more_int blk off cap bs k 3 _ _ _ _ HB.out (by omega) (by omega) (by omega) (by omega)).mono ?_; rintro e w' ⟨rfl, rfl⟩)))
    go_ret
    exact ⟨ret_int (by rw [hv2.out]; rfl), rfl⟩

set_option maxRecDepth 100000 in
set_option maxHeartbeats 2000000 in
theorem seq_4 (blk off cap k : Nat) (bs : List UInt8) (w : World) (hc : BA w blk off bs) (hk : k < bs.length) (hn : bs.length ≤ 140737488351232) (c : Nat) (hcv : Asc.at_ (bs.drop k) 0 = c) (h1 : 241 ≤ c) (h2 : c < 244) :
    Calls Tryd.prog 37 #[.slice (some ⟨blk, off, none⟩) bs.length cap, .int .i64 k] w fun e w' => e = .returned (.int .i64 (Asc.vlen (bs.drop k))) ∧ w = w' := by
  have c0 := hc k hk
  have hcv' : Asc.at_ bs k = c := by have e := hcv; unfold Asc.at_ at e; rw [List.getElem?_drop, Nat.add_zero] at e; exact e
  rw [hcv'] at c0
  have HB := Lib.hid hc
  have hv := Lib.hid (Asc.vl4 hcv (by omega) (by omega) (Asc.lo_other (by omega) (by omega)) (Asc.hi_other (by omega) (by omega)))
  have r224 : ((c : Int) == 224) = false := by rw [beq_eq_false_iff_ne]; omega
  have r237 : ((c : Int) == 237) = false := by rw [beq_eq_false_iff_ne]; omega
  have r240 : ((c : Int) == 240) = false := by rw [beq_eq_false_iff_ne]; omega
  have r244 : ((c : Int) == 244) = false := by rw [beq_eq_false_iff_ne]; omega
  clear hc hcv hcv'
  cases b1 : Asc.inAt (bs.drop k) 1 128 191 <;> cases b2 : Asc.inAt (bs.drop k) 2 128 191 <;> cases b3 : Asc.inAt (bs.drop k) 3 128 191
  all_goals
    have h := hv.out
    rw [b1, b2, b3] at h
    have hv2 := Lib.hid h
    clear hv h
    go_enter Tryd.func37, Tryd.ntmps37
    go_wp2_with ((go_at_call 48; first | (refine (more_int blk off cap bs k 1 _ _ _ _ HB.out (by omega) (by omega) (by omega) (by omega)).mono ?_; rintro e w' ⟨rfl, rfl⟩) | (refine (more_int blk off cap bs k 2 _ _ _ _ HB.out (by omega) (by omega) (by omega) (by omega)).mono ?_; rintro e w' ⟨rfl, rfl⟩) | (refine (more_int blk off cap bs k 3 _ _ _ _ HB.out (by omega) (by omega) (by omega) (by omega)).mono ?_; rintro e w' ⟨rfl, rfl⟩)))
    go_ret
    exact ⟨ret_int (by rw [hv2.out]; rfl), rfl⟩

set_option maxRecDepth 100000 in
set_option maxHeartbeats 2000000 in
theorem seq_224 (blk off cap k : Nat) (bs : List UInt8) (w : World) (hc : BA w blk off bs) (hk : k < bs.length) (hn : bs.length ≤ 140737488351232) (hcv : Asc.at_ (bs.drop k) 0 = 224) :
    Calls Tryd.prog 37 #[.slice (some ⟨blk, off, none⟩) bs.length cap, .int .i64 k] w fun e w' => e = .returned (.int .i64 (Asc.vlen (bs.drop k))) ∧ w = w' := by
  have c0 := hc k hk
  have hcv' : Asc.at_ bs k = 224 := by have e := hcv; unfold Asc.at_ at e; rw [List.getElem?_drop, Nat.add_zero] at e; exact e
  rw [hcv'] at c0
  have HB := Lib.hid hc
  have hv := Lib.hid (Asc.vl3 hcv (by omega) (by omega) (lo := 160) (hi := 191) rfl rfl)
  clear hc hcv hcv'
  cases b1 : Asc.inAt (bs.drop k) 1 160 191 <;> cases b2 : Asc.inAt (bs.drop k) 2 128 191
  all_goals
    have h := hv.out
    rw [b1, b2] at h
    have hv2 := Lib.hid h
    clear hv h
    go_enter Tryd.func37, Tryd.ntmps37
    go_wp2_with ((go_at_call 48; first | (refine (more_int blk off cap bs k 1 _ _ _ _ HB.out (by omega) (by omega) (by omega) (by omega)).mono ?_; rintro e w' ⟨rfl, rfl⟩) | (refine (more_int blk off cap bs k 2 _ _ _ _ HB.out (by omega) (by omega) (by omega) (by omega)).mono ?_; rintro e w' ⟨rfl, rfl⟩) | (refine (more_int blk off cap bs k 3 _ _ _ _ HB.out (by omega) (by omega) (by omega) (by omega)).mono ?_; rintro e w' ⟨rfl, rfl⟩)))
    go_ret
    exact ⟨ret_int (by rw [hv2.out]; rfl), rfl⟩

set_option maxRecDepth 100000 in
set_option maxHeartbeats 2000000 in
theorem seq_237 (blk off cap k : Nat) (bs : List UInt8) (w : World) (hc : BA w blk off bs) (hk : k < bs.length) (hn : bs.length ≤ 140737488351232) (hcv : Asc.at_ (bs.drop k) 0 = 237) :
    Calls Tryd.prog 37 #[.slice (some ⟨blk, off, none⟩) bs.length cap, .int .i64 k] w fun e w' => e = .returned (.int .i64 (Asc.vlen (bs.drop k))) ∧ w = w' := by
  have c0 := hc k hk
  have hcv' : Asc.at_ bs k = 237 := by have e := hcv; unfold Asc.at_ at e; rw [List.getElem?_drop, Nat.add_zero] at e; exact e
  rw [hcv'] at c0
  have HB := Lib.hid hc
  have hv := Lib.hid (Asc.vl3 hcv (by omega) (by omega) (lo := 128) (hi := 159) rfl rfl)
  clear hc hcv hcv'
  cases b1 : Asc.inAt (bs.drop k) 1 128 159 <;> cases b2 : Asc.inAt (bs.drop k) 2 128 191
  all_goals
    have h := hv.out
    rw [b1, b2] at h
    have hv2 := Lib.hid h
    clear hv h
    go_enter Tryd.func37, Tryd.ntmps37
    go_wp2_with ((go_at_call 48; first | (refine (more_int blk off cap bs k 1 _ _ _ _ HB.out (by omega) (by omega) (by omega) (by omega)).mono ?_; rintro e w' ⟨rfl, rfl⟩) | (refine (more_int blk off cap bs k 2 _ _ _ _ HB.out (by omega) (by omega) (by omega) (by omega)).mono ?_; rintro e w' ⟨rfl, rfl⟩) | (refine (more_int blk off cap bs k 3 _ _ _ _ HB.out (by omega) (by omega) (by omega) (by omega)).mono ?_; rintro e w' ⟨rfl, rfl⟩)))
    go_ret
    exact ⟨ret_int (by rw [hv2.out]; rfl), rfl⟩

set_option maxRecDepth 100000 in
set_option maxHeartbeats 2000000 in
theorem seq_240 (blk off cap k : Nat) (bs : List UInt8) (w : World) (hc : BA w blk off bs) (hk : k < bs.length) (hn : bs.length ≤ 140737488351232) (hcv : Asc.at_ (bs.drop k) 0 = 240) :
    Calls Tryd.prog 37 #[.slice (some ⟨blk, off, none⟩) bs.length cap, .int .i64 k] w fun e w' => e = .returned (.int .i64 (Asc.vlen (bs.drop k))) ∧ w = w' := by
  have c0 := hc k hk
  have hcv' : Asc.at_ bs k = 240 := by have e := hcv; unfold Asc.at_ at e; rw [List.getElem?_drop, Nat.add_zero] at e; exact e
  rw [hcv'] at c0
  have HB := Lib.hid hc
  have hv := Lib.hid (Asc.vl4 hcv (by omega) (by omega) (lo := 144) (hi := 191) rfl rfl)
  clear hc hcv hcv'
  cases b1 : Asc.inAt (bs.drop k) 1 144 191 <;> cases b2 : Asc.inAt (bs.drop k) 2 128 191 <;> cases b3 : Asc.inAt (bs.drop k) 3 128 191
  all_goals
    have h := hv.out
    rw [b1, b2, b3] at h
    have hv2 := Lib.hid h
    clear hv h
    go_enter Tryd.func37, Tryd.ntmps37
    go_wp2_with ((go_at_call 48; first | (refine (more_int blk off cap bs k 1 _ _ _ _ HB.out (by omega) (by omega) (by omega) (by omega)).mono ?_; rintro e w' ⟨rfl, rfl⟩) | (refine (more_int blk off cap bs k 2 _ _ _ _ HB.out (by omega) (by omega) (by omega) (by omega)).mono ?_; rintro e w' ⟨rfl, rfl⟩) | (refine (more_int blk off cap bs k 3 _ _ _ _ HB.out (by omega) (by omega) (by omega) (by omega)).mono ?_; rintro e w' ⟨rfl, rfl⟩)))
    go_ret
    exact ⟨ret_int (by rw [hv2.out]; rfl), rfl⟩

set_option maxRecDepth 100000 in
set_option maxHeartbeats 2000000 in
theorem seq_244 (blk off cap k : Nat) (bs : List UInt8) (w : World) (hc : BA w blk off bs) (hk : k < bs.length) (hn : bs.length ≤ 140737488351232) (hcv : Asc.at_ (bs.drop k) 0 = 244) :
    Calls Tryd.prog 37 #[.slice (some ⟨blk, off, none⟩) bs.length cap, .int .i64 k] w fun e w' => e = .returned (.int .i64 (Asc.vlen (bs.drop k))) ∧ w = w' := by
  have c0 := hc k hk
  have hcv' : Asc.at_ bs k = 244 := by have e := hcv; unfold Asc.at_ at e; rw [List.getElem?_drop, Nat.add_zero] at e; exact e
  rw [hcv'] at c0
  have HB := Lib.hid hc
  have hv := Lib.hid (Asc.vl4 hcv (by omega) (by omega) (lo := 128) (hi := 143) rfl rfl)
  clear hc hcv hcv'
  cases b1 : Asc.inAt (bs.drop k) 1 128 143 <;> cases b2 : Asc.inAt (bs.drop k) 2 128 191 <;> cases b3 : Asc.inAt (bs.drop k) 3 128 191
  all_goals
    have h := hv.out
    rw [b1, b2, b3] at h
    have hv2 := Lib.hid h
    clear hv h
    go_enter Tryd.func37, Tryd.ntmps37
    go_wp2_with ((go_at_call 48; first | (refine (more_int blk off cap bs k 1 _ _ _ _ HB.out (by omega) (by omega) (by omega) (by omega)).mono ?_; rintro e w' ⟨rfl, rfl⟩) | (refine (more_int blk off cap bs k 2 _ _ _ _ HB.out (by omega) (by omega) (by omega) (by omega)).mono ?_; rintro e w' ⟨rfl, rfl⟩) | (refine (more_int blk off cap bs k 3 _ _ _ _ HB.out (by omega) (by omega) (by omega) (by omega)).mono ?_; rintro e w' ⟨rfl, rfl⟩)))
    go_ret
    exact ⟨ret_int (by rw [hv2.out]; rfl), rfl⟩

theorem seq_any (blk off cap k : Nat) (bs : List UInt8) (w : World) (hc : BA w blk off bs) (hk : k < bs.length) (hn : bs.length ≤ 140737488351232) :
    Calls Tryd.prog 37 #[.slice (some ⟨blk, off, none⟩) bs.length cap, .int .i64 k] w fun e w' => e = .returned (.int .i64 (Asc.vlen (bs.drop k))) ∧ w = w' := by
  obtain ⟨c, hcv⟩ : ∃ c, Asc.at_ (bs.drop k) 0 = c := ⟨_, rfl⟩
  have R : c < 128 ∨ (128 ≤ c ∧ c < 194) ∨ (194 ≤ c ∧ c < 224) ∨ c = 224 ∨ c = 237 ∨ (225 ≤ c ∧ c < 240 ∧ c ≠ 237) ∨ c = 240 ∨ c = 244 ∨ (241 ≤ c ∧ c < 244) ∨ 245 ≤ c := by omega
  rcases R with r | ⟨ra, rb⟩ | ⟨ra, rb⟩ | rfl | rfl | ⟨ra, rb, rc⟩ | rfl | rfl | ⟨ra, rb⟩ | r
  · exact seq_1 blk off cap k bs w hc hk c hcv r
  · exact seq_0a blk off cap k bs w hc hk c hcv ra rb
  · exact seq_2 blk off cap k bs w hc hk hn c hcv ra rb
  · exact seq_224 blk off cap k bs w hc hk hn hcv
  · exact seq_237 blk off cap k bs w hc hk hn hcv
  · exact seq_3 blk off cap k bs w hc hk hn c hcv ra rb rc
  · exact seq_240 blk off cap k bs w hc hk hn hcv
  · exact seq_244 blk off cap k bs w hc hk hn hcv
  · exact seq_4 blk off cap k bs w hc hk hn c hcv ra rb
  · exact seq_0b blk off cap k bs w hc hk c hcv r

end Go.Proofs.YtloilffkggkgdaaDoor

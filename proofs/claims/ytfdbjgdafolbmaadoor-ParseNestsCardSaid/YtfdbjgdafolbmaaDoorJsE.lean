/-
  The decoder: word.
-/
import Derived.Test.YtfdbjgdafolbmaaDoorJsD
namespace Go.Proofs.YtfdbjgdafolbmaaDoor
open Go.RowKit Go.Sort Go.Shelf

theorem prefix_is (l p : List UInt8) (b : Bool) (h : p.isPrefixOf l = b) (w : World) : Calls Tryd.prog 42 #[.string ⟨l.toArray⟩, .string ⟨p.toArray⟩] w fun e w' => e = .returned (.bool b) ∧ w = w' := by
  have hc := Tryd.strings_HasPrefix ⟨l.toArray⟩ ⟨p.toArray⟩ w
  have e : Lib.hasPrefix (ByteArray.mk l.toArray).data.toList (ByteArray.mk p.toArray).data.toList = b := by unfold Lib.hasPrefix; simpa using h
  rw [e] at hc
  exact hc.mono fun _ _ ⟨h1, h2⟩ => ⟨h1, h2.symm⟩
theorem prefix_len {l p : List UInt8} (h : p.isPrefixOf l = true) : p.length ≤ l.length := (List.isPrefixOf_iff_prefix.1 h).length_le

set_option maxRecDepth 100000 in
set_option maxHeartbeats 4000000 in
theorem word_any2 {w0 W : World} {g : Nat} {s r : List UInt8} {fs : List Fd} (h : DOK w0 g s r fs W) (hs : s.length ≤ 1000) :
    Calls Tryd.prog 67 #[.pointer (some ⟨g, 0, none⟩)] W (TxtPost w0 g s fs (Js.wrd r)) := by
  obtain ⟨k, hk, hr, hd, hl⟩ := h
  have hfk : fs.length ≤ k := by rw [← hr, List.length_drop] at hl; omega
  have hrl : r.length = s.length - k := by rw [← hr, List.length_drop]
  have HRL := Lib.hid hrl
  have HR := Lib.hid hr
  obtain ⟨R, hR⟩ : ∃ R, Js.wrd r = R := ⟨_, rfl⟩
  rw [hR]
  have HW := Lib.hid hR
  have hex : (ByteArray.mk s.toArray).extract k s.length = ⟨r.toArray⟩ := by rw [ext_drop, hr]
  have i1 : (k : Int) ≤ (s.length : Int) := by omega
  have i2 : (0 : Int) ≤ (k : Int) := by omega
  obtain ⟨W1, hW1⟩ : ∃ W1, W.alloc (.cells #[.string ⟨#[116, 114, 117, 101]⟩, .string ⟨#[102, 97, 108, 115, 101]⟩, .string ⟨#[110, 117, 108, 108]⟩] 9) = W1 := ⟨_, rfl⟩
  have HD := Lib.hid (show DAt w0 g s k 0 fs W1 by rw [← hW1]; exact hd.later ((Below.refl _ _).alloc (Nat.le_refl _) _))
  have x0 : W1.cell? ⟨W.heap.size, 0, none⟩ = some (.string ⟨#[116, 114, 117, 101]⟩) := by rw [← hW1]; simp [go_sem]
  have x1 : W1.cell? ⟨W.heap.size, 1, none⟩ = some (.string ⟨#[102, 97, 108, 115, 101]⟩) := by rw [← hW1]; simp [go_sem]
  have x2 : W1.cell? ⟨W.heap.size, 2, none⟩ = some (.string ⟨#[110, 117, 108, 108]⟩) := by rw [← hW1]; simp [go_sem]
  have HW1 := Lib.hid hW1
  have X0 := Lib.hid x0
  have X1 := Lib.hid x1
  have X2 := Lib.hid x2
  clear hr hd hl hrl hR hW1 x0 x1 x2
  go_enter Tryd.func67, Tryd.ntmps67
  go_wp2_with fail
  rw [HW1.out]
  go_loopw [7] (fun i wr => ∃ n q : Nat, n ≤ 3 ∧ i = .int .i64 n ∧ wr = W1.drewN q ∧ (1 ≤ n → Js.tru.isPrefixOf r = false) ∧ (2 ≤ n → Js.fal.isPrefixOf r = false) ∧ (3 ≤ n → Js.nul.isPrefixOf r = false)) (fun i _ => 3 - (intOf i).toNat)
  case atStart => exact ⟨0, 0, by omega, rfl, rfl, fun h => by omega, fun h => by omega, fun h => by omega⟩
  case round =>
    obtain ⟨n, q, hn, rfl, rfl, p1, p2, p3⟩ := hrel
    obtain ⟨Wq, hWq⟩ : ∃ Wq, W1.drewN q = Wq := ⟨_, rfl⟩
    have hdq := HD.out.drewN q
    have y0 : (W1.drewN q).cell? ⟨W.heap.size, 0, none⟩ = some (.string ⟨#[116, 114, 117, 101]⟩) := X0.out
    have y1 : (W1.drewN q).cell? ⟨W.heap.size, 1, none⟩ = some (.string ⟨#[102, 97, 108, 115, 101]⟩) := X1.out
    have y2 : (W1.drewN q).cell? ⟨W.heap.size, 2, none⟩ = some (.string ⟨#[110, 117, 108, 108]⟩) := X2.out
    rw [hWq] at hdq y0 y1 y2 ⊢
    have HQ := Lib.hid hWq
    have HDQ := Lib.hid hdq
    have c0 := hdq.c0
    have c1 := hdq.c1
    have P1 := Lib.hid p1
    have P2 := Lib.hid p2
    have P3 := Lib.hid p3
    clear hWq hdq p1 p2 p3
    have hcs : n = 0 ∨ n = 1 ∨ n = 2 ∨ n = 3 := by omega
    rcases hcs with rfl | rfl | rfl | rfl
    · cases hb : Js.tru.isPrefixOf r
      · have HP := Lib.hid fun w => prefix_is r Js.tru false hb w
        have HB := Lib.hid hb
        clear hb
        go_wp2_with fail
        go_quiet ((go_at_call 42; exact q_same (HP.out _)))
        go_wp2_with fail
        go_roundw
        case rel => exact ⟨1, q + nq, by omega, rfl, by rw [← HQ.out, World.drewN_drewN], fun _ => by first | exact HB.out | trivial, fun h => by omega, fun h => by omega⟩
        case measure => simp [intOf]
      · have HP := Lib.hid fun w => prefix_is r Js.tru true hb w
        have hpl := prefix_len hb
        rw [HRL.out, show Js.tru.length = 4 from rfl] at hpl
        have HB := Lib.hid hb
        have HZ := Lib.hid (show R = some (Js.tru, r.drop 4) by
          rw [← HW.out]
          unfold Js.wrd
          rw [if_pos hb])
        clear hb
        go_wp2_with fail
        go_quiet ((go_at_call 42; exact q_same (HP.out _)))
        obtain ⟨Wr, hWr⟩ : ∃ Wr, Wq.drewN nq = Wr := ⟨_, rfl⟩
        have h4 := HDQ.out.drewN nq
        rw [hWr] at h4 ⊢
        have c1 := h4.c1
        have f1 := h4.fz 1
        have HA := Lib.hid (show DOK w0 g s (r.drop 4) fs (Wr.setCell ⟨g, 1, none⟩ (.int .i64 ((k : Int) + 4))) from ⟨k + 4, by omega, by rw [← HR.out, List.drop_drop], h4.at (k + 4), by rw [List.length_drop, HRL.out]; omega⟩)
        clear hWr h4
        go_wp2_with fail
        go_ret
        rw [HZ.out]
        exact ⟨rfl, HA.out⟩
    · cases hb : Js.fal.isPrefixOf r
      · have HP := Lib.hid fun w => prefix_is r Js.fal false hb w
        have HB := Lib.hid hb
        clear hb
        go_wp2_with fail
        go_quiet ((go_at_call 42; exact q_same (HP.out _)))
        go_wp2_with fail
        go_roundw
        case rel => exact ⟨2, q + nq, by omega, rfl, by rw [← HQ.out, World.drewN_drewN], fun _ => P1.out (by omega), fun _ => by first | exact HB.out | trivial, fun h => by omega⟩
        case measure => simp [intOf]
      · have HP := Lib.hid fun w => prefix_is r Js.fal true hb w
        have hpl := prefix_len hb
        rw [HRL.out, show Js.fal.length = 5 from rfl] at hpl
        have HB := Lib.hid hb
        have HZ := Lib.hid (show R = some (Js.fal, r.drop 5) by
          rw [← HW.out]
          unfold Js.wrd
          rw [if_neg (by rw [P1.out (by omega)]; simp)]
          rw [if_pos hb])
        clear hb
        go_wp2_with fail
        go_quiet ((go_at_call 42; exact q_same (HP.out _)))
        obtain ⟨Wr, hWr⟩ : ∃ Wr, Wq.drewN nq = Wr := ⟨_, rfl⟩
        have h4 := HDQ.out.drewN nq
        rw [hWr] at h4 ⊢
        have c1 := h4.c1
        have f1 := h4.fz 1
        have HA := Lib.hid (show DOK w0 g s (r.drop 5) fs (Wr.setCell ⟨g, 1, none⟩ (.int .i64 ((k : Int) + 5))) from ⟨k + 5, by omega, by rw [← HR.out, List.drop_drop], h4.at (k + 5), by rw [List.length_drop, HRL.out]; omega⟩)
        clear hWr h4
        go_wp2_with fail
        go_ret
        rw [HZ.out]
        exact ⟨rfl, HA.out⟩
    · cases hb : Js.nul.isPrefixOf r
      · have HP := Lib.hid fun w => prefix_is r Js.nul false hb w
        have HB := Lib.hid hb
        clear hb
        go_wp2_with fail
        go_quiet ((go_at_call 42; exact q_same (HP.out _)))
        go_wp2_with fail
        go_roundw
        case rel => exact ⟨3, q + nq, by omega, rfl, by rw [← HQ.out, World.drewN_drewN], fun _ => P1.out (by omega), fun _ => P2.out (by omega), fun _ => by first | exact HB.out | trivial⟩
        case measure => simp [intOf]
      · have HP := Lib.hid fun w => prefix_is r Js.nul true hb w
        have hpl := prefix_len hb
        rw [HRL.out, show Js.nul.length = 4 from rfl] at hpl
        have HB := Lib.hid hb
        have HZ := Lib.hid (show R = some ([], r.drop 4) by
          rw [← HW.out]
          unfold Js.wrd
          rw [if_neg (by rw [P1.out (by omega)]; simp)]
          rw [if_neg (by rw [P2.out (by omega)]; simp)]
          rw [if_pos hb])
        clear hb
        go_wp2_with fail
        go_quiet ((go_at_call 42; exact q_same (HP.out _)))
        obtain ⟨Wr, hWr⟩ : ∃ Wr, Wq.drewN nq = Wr := ⟨_, rfl⟩
        have h4 := HDQ.out.drewN nq
        rw [hWr] at h4 ⊢
        have c1 := h4.c1
        have f1 := h4.fz 1
        have HA := Lib.hid (show DOK w0 g s (r.drop 4) fs (Wr.setCell ⟨g, 1, none⟩ (.int .i64 ((k : Int) + 4))) from ⟨k + 4, by omega, by rw [← HR.out, List.drop_drop], h4.at (k + 4), by rw [List.length_drop, HRL.out]; omega⟩)
        clear hWr h4
        go_wp2_with fail
        go_ret
        rw [HZ.out]
        exact ⟨rfl, HA.out⟩
    · have HF := Lib.hid (fail_ok HDQ.out 1)
      have HZ := Lib.hid (show R = none by
        rw [← HW.out]
        unfold Js.wrd
        rw [if_neg (by rw [P1.out (by omega)]; simp), if_neg (by rw [P2.out (by omega)]; simp), if_neg (by rw [P3.out (by omega)]; simp)])
      go_wp2_with fail
      refine HF.out.mono ?_
      rintro e w3 ⟨rfl, hd3⟩
      have H3 := Lib.hid (show DER w0 g s s.length 1 w3 from ⟨by decide, k, fs, by omega, hd3, by omega⟩)
      clear hd3
      go_wp2_with fail
      go_ret
      rw [HZ.out]
      exact ⟨rfl, H3.out⟩

end Go.Proofs.YtfdbjgdafolbmaaDoor

/-
  The decoder: text where the opening quotation mark is there.
-/
import Derived.Test.YtfdbjgdafolbmaaDoorJsB
namespace Go.Proofs.YtfdbjgdafolbmaaDoor
open Go.RowKit Go.Sort Go.Shelf

theorem idx_ntr (d : UInt8) (i : Int) (h : Lib.indexByte [110, 116, 114] d = i) (w : World) : Calls Tryd.prog 48 #[.string ⟨#[110, 116, 114]⟩, .int .u8 d.toNat] w fun e w' => e = .returned (.int .i64 i) ∧ w = w' := by
  have hc := Tryd.strings_IndexByte ⟨#[110, 116, 114]⟩ (d.toNat : Int) w
  rw [u8_of] at hc
  rw [← h]
  exact hc.mono fun e w' ⟨h1, h2⟩ => ⟨h1, h2.symm⟩
theorem esc_no {d : UInt8} (h : [34, 92, 47, 110, 116, 114].contains d = false) : Js.unesc d = none := by
  simp at h
  unfold Js.unesc
  simp [h]
theorem esc_yes {d : UInt8} (h : [34, 92, 47, 110, 116, 114].contains d = true) : d = 34 ∨ d = 92 ∨ d = 47 ∨ d = 110 ∨ d = 116 ∨ d = 114 := by
  simpa using h

set_option maxRecDepth 100000 in
set_option maxHeartbeats 4000000 in
theorem text_some {w0 W : World} {g : Nat} {s r r0 : List UInt8} {fs : List Fd} (h : DOK w0 g s r fs W) (hs : s.length ≤ 1000) (hx : Js.exp 34 r = some r0) :
    Calls Tryd.prog 52 #[.pointer (some ⟨g, 0, none⟩)] W (TxtPost w0 g s fs (Js.txtL r0 [])) := by
  have HE := Lib.hid (expect_yes h hs hx)
  obtain ⟨R, hR⟩ : ∃ R, Js.txtL r0 [] = R := ⟨_, rfl⟩
  rw [hR]
  have HR := Lib.hid hR
  clear h hx hR
  go_enter Tryd.func52, Tryd.ntmps52
  go_wp2_with (go_at_call 50; refine HE.out.mono ?_)
  rintro e w1 ⟨rfl, k0, hk0, hr0, hd0, hl0⟩
  have hfk : fs.length ≤ k0 := by rw [← hr0, List.length_drop] at hl0; omega
  have HST := Lib.hid (show TRel w0 g s k0 fs w1.heap.size R (s.length - k0 + 1) (.slice none 0 0) w1 from ⟨k0, [], 0, TI.start hd0, Nat.le_refl _, hk0, by simp, .inl ⟨rfl, rfl, by rw [hr0]; exact HR.out⟩⟩)
  obtain ⟨B, hB⟩ : ∃ B, w1.heap.size = B := ⟨_, rfl⟩
  rw [hB] at HST
  clear hd0 hl0 hr0 hB HR HE
  go_wp2_with fail
  go_loopg [3] (s.length - k0 + 1) (fun m v wr => TRel w0 g s k0 fs B R m v wr)
  case atStart => exact HST.out
  case round =>
    obtain ⟨k, acc, e, hT, hk1, hk2, hal, hst⟩ := hrel
    rcases hst with ⟨rfl, rfl, hq⟩ | ⟨rfl, rfl, hq⟩
    · have HT := Lib.hid hT
      have HQ := Lib.hid hq
      have c2 := hT.d.c2
      have c0 := hT.d.c0
      have c1 := hT.d.c1
      clear hT hq HST
      by_cases hlt : k < s.length
      · have t : decide ((s.length : Int) ≤ (k : Int)) = false := decide_eq_false (by omega)
        have t' : decide (s.length ≤ k) = false := decide_eq_false (by omega)
        have t2 : (k : Int) < (s.length : Int) := by omega
        have t3 : (0 : Int) ≤ (k : Int) := by omega
        obtain ⟨c, ⟨_, hy⟩, hcc, hc2⟩ := byte_at s k hlt
        have HC := Lib.hid hcc
        have HDR := Lib.hid (Asc.drop_cons hlt)
        clear hcc
        obtain ⟨b, hb⟩ : ∃ b, s[k] = b := ⟨_, rfl⟩
        rw [hb] at HC HDR
        clear hb
        by_cases h32 : c < 32
        · have t4 : decide ((c : Int) < 32) = true := decide_eq_true (by omega)
          have HF := Lib.hid fun q => fail_ok (HT.out.d.drewN q) 1
          have HN := Lib.hid (show R = none by rw [← HQ.out, HDR.out, Js.txtL_low (by rw [HC.out]; exact h32)])
          go_wp2_with fail
          go_quiet (fail)
          go_wp2_with fail
          refine (HF.out _).mono ?_
          rintro e w2 ⟨rfl, hd2⟩
          have H2 := Lib.hid (show DER w0 g s s.length 1 w2 from ⟨by decide, k, fs, by omega, hd2, by omega⟩)
          clear hd2
          go_wp2_with fail
          go_ret
          rw [HN.out]
          exact ⟨rfl, H2.out⟩
        · have t4 : decide ((c : Int) < 32) = false := decide_eq_false (by omega)
          go_wp2_with fail
          go_quiet (fail)
          obtain ⟨Wq, hWq⟩ : ∃ Wq, wr.drewN nq = Wq := ⟨_, rfl⟩
          have h3 := HT.out.drewN nq
          rw [hWq] at h3 ⊢
          have HT3 := Lib.hid h3
          have c0 := h3.d.c0
          have c1 := h3.d.c1
          clear hWq h3 HT
          go_wp2_with fail
          go_quiet (fail)
          obtain ⟨Wr, hWr⟩ : ∃ Wr, Wq.drewN nq = Wr := ⟨_, rfl⟩
          have h4 := HT3.out.drewN nq
          rw [hWr] at h4 ⊢
          have c1 := h4.d.c1
          have f1 := h4.d.fz 1
          have HA := Lib.hid (show TI w0 g s (k + 1) 0 fs B acc _ (Wr.setCell ⟨g, 1, none⟩ (.int .i64 ((k : Int) + 1))) from h4.at (k + 1))
          clear hWr h4 HT3
          have hown := HA.out.own
          have hsz := HA.out.hB
          have q1 : acc.length + 1 ≤ 140737488355328 := by omega
          have q2 : (acc.length + 1) * 1 ≤ 140737488355328 := by omega
          have t4' : ¬ b.toNat < 32 := by rw [HC.out]; exact h32
          by_cases e34 : c = 34
          · subst e34
            have hb34 : b = 34 := UInt8.toNat_inj.1 HC.out
            have HN := Lib.hid (show R = some (acc, s.drop (k + 1)) by rw [← HQ.out, HDR.out, hb34, Js.txtL_q])
            have hcv := conv_own HA.out.own
            have H2 := Lib.hid (show DOK w0 g s (s.drop (k + 1)) fs (Wr.setCell ⟨g, 1, none⟩ (.int .i64 ((k : Int) + 1))) from ⟨k + 1, by omega, rfl, HA.out.d, by rw [List.length_drop]; omega⟩)
            clear hb34 hown
            go_wp2_with fail
            go_ret
            rw [HN.out]
            exact ⟨rfl, H2.out⟩
          · have r34 : ((c : Int) == 34) = false := by rw [beq_eq_false_iff_ne]; omega
            have n34 : b ≠ 34 := fun e => e34 (by rw [← HC.out, e]; rfl)
            by_cases e92 : c = 92
            · subst e92
              have hb92 : b = 92 := UInt8.toNat_inj.1 HC.out
              rw [hb92] at HDR
              cases hsb : hd [34, 92, 47, 110, 116, 114] (s.drop (k + 1))
              · have HS : Hid (Calls Tryd.prog 49 #[.pointer (some ⟨g, 0, none⟩), .string ⟨#[34, 92, 47, 110, 116, 114]⟩] (Wr.setCell ⟨g, 1, none⟩ (.int .i64 ((k : Int) + 1))) fun e w' => e = .returned (.bool false) ∧ Qt (Wr.setCell ⟨g, 1, none⟩ (.int .i64 ((k : Int) + 1))) w') := by
                  rcases Nat.lt_or_ge (k + 1) s.length with h5 | h5
                  · rw [Asc.drop_cons h5] at hsb
                    exact sees_atQ HA.out.d h5 [34, 92, 47, 110, 116, 114] false hsb
                  · exact sees_endQ HA.out.d h5 [34, 92, 47, 110, 116, 114]
                have HN := Lib.hid (show R = none by
                  rw [← HQ.out, HDR.out]
                  refine Js.txtL_bn fun d q e => ?_
                  rw [e] at hsb
                  exact esc_no hsb)
                clear hb92 hown hsz n34 hsb t4'
                go_wp2_with fail
                refine HS.out.mono ?_
                rintro e w5 ⟨rfl, hq5⟩
                have H5 := Lib.hid (HA.out.qt hq5)
                clear hq5 HA
                go_wp2_with fail
                refine (fail_eq H5.out.d 1).mono ?_
                rintro e w6 ⟨rfl, hw6⟩
                have H6 := Lib.hid (show TI w0 g s (k + 1) 1 fs B acc u3 w6 by rw [hw6]; exact H5.out.er 1)
                have hown := H6.out.own
                have hsz := H6.out.hB
                have HP := Lib.hid fun v' W' o => H6.out.push (v' := v') (W' := W') (o := o) 92
                clear hw6 H5
                go_wp2_with (at_builtin; refine wpList_append_k (ys := [.int .u8 (92 : Int)]) rfl _ _ 22 5 (.int .u8 0) 1 1 rfl Tryd.underlying22 info5 rfl (by decide) B _ _ _ rfl hown rfl w6.heap.size (by simp) rfl (fun u hu => by simp at hu; subst hu; rfl) q1 q2 hsz ?_; intro v' w2 hown' hgrow)
                have HX := Lib.hid (HP.out v' w2 _ hown' hgrow)
                clear hown hown' hgrow
                go_wp2_with fail
                go_roundg 0
                case measure => omega
                case rel => exact ⟨k + 1, acc ++ [92], 1, HX.out, by omega, by omega, by simp; omega, .inr ⟨rfl, rfl, HN.out⟩⟩
              · obtain ⟨d, q, hdq⟩ : ∃ d q, s.drop (k + 1) = d :: q := by
                  revert hsb
                  cases s.drop (k + 1) with
                  | nil => intro h; cases h
                  | cons d q => intro _; exact ⟨d, q, rfl⟩
                obtain ⟨h5, hsd, hsq⟩ := drop_head hdq
                rw [hdq] at hsb
                have hesc : [34, 92, 47, 110, 116, 114].contains d = true := hsb
                have HS := Lib.hid (sees_atQ HA.out.d h5 [34, 92, 47, 110, 116, 114] true (by rw [hsd]; exact hesc))
                obtain ⟨cd, ⟨_, hy2⟩, hcd, hcd2⟩ := byte_at s (k + 1) h5
                rw [hsd] at hcd
                have HDQ := Lib.hid (show s.drop k = 92 :: d :: s.drop (k + 2) by rw [HDR.out, hdq, ← hsq])
                have t5 : (k : Int) + 1 < (s.length : Int) := by omega
                have t6 : (0 : Int) ≤ (k : Int) + 1 := by omega
                have t7 : ((k : Int) + 1).toNat = k + 1 := by omega
                clear hb92 hown hsz n34 hsb t4' hdq hsq hsd HDR
                go_wp2_with fail
                refine HS.out.mono ?_
                rintro e w5 ⟨rfl, hq5⟩
                have H5 := Lib.hid (HA.out.qt hq5)
                have d0 := (HA.out.qt hq5).d.c0
                have d1 : w5.cell? ⟨g, 1, none⟩ = some (.int .i64 ((k : Int) + 1)) := (HA.out.qt hq5).d.c1
                clear hq5 HA HS
                go_wp2_with fail
                go_quiet (fail)
                obtain ⟨W6, hW6⟩ : ∃ W6, w5.drewN nq = W6 := ⟨_, rfl⟩
                have h6 := H5.out.drewN nq
                rw [hW6] at h6 ⊢
                have d1 : W6.cell? ⟨g, 1, none⟩ = some (.int .i64 ((k : Int) + 1)) := h6.d.c1
                have d2 := h6.d.fz 1
                have HA7 := Lib.hid (show TI w0 g s (k + 2) 0 fs B acc u3 (W6.setCell ⟨g, 1, none⟩ (.int .i64 ((k : Int) + 1 + 1))) from h6.at (k + 2))
                have hown := HA7.out.own
                have hsz := HA7.out.hB
                clear hW6 h6 H5
                rcases esc_yes hesc with rfl | rfl | rfl | rfl | rfl | rfl
                · obtain rfl : cd = 34 := by rw [← hcd]; rfl
                  have HIX : Hid (∀ w, Calls Tryd.prog 48 #[.string ⟨#[110, 116, 114]⟩, .int .u8 34] w fun e w' => e = .returned (.int .i64 (-1)) ∧ w = w') := (show ∀ w, Calls Tryd.prog 48 #[.string ⟨#[110, 116, 114]⟩, .int .u8 34] w fun e w' => e = .returned (.int .i64 (-1)) ∧ w = w' from fun w => idx_ntr 34 (-1) (by decide) w)
                  have HP := Lib.hid fun v' W' o => HA7.out.push (v' := v') (W' := W') (o := o) 34
                  have HN := Lib.hid (show Js.txtL (s.drop (k + 2)) (acc ++ [34]) = R by rw [← HQ.out, HDQ.out, Js.txtL_b (x := 34) (by decide)])
                  clear hesc hcd HDQ HQ HC
                  go_wp2_with (first | (go_at_call 48; refine (HIX.out _).mono ?_; rintro e w' ⟨rfl, rfl⟩) | (at_builtin; refine wpList_append_k (ys := [.int .u8 (34 : Int)]) rfl _ _ 22 5 (.int .u8 0) 1 1 rfl Tryd.underlying22 info5 rfl (by decide) B _ _ _ rfl hown rfl W6.heap.size (by simp) rfl (fun u hu => by simp at hu; subst hu; rfl) q1 q2 hsz ?_; intro v' w2 hown' hgrow))
                  have HX := Lib.hid (HP.out v' w2 _ hown' hgrow)
                  clear hown hown' hgrow
                  go_wp2_with fail
                  go_roundg (s.length - (k + 2) + 1)
                  case measure => omega
                  case rel => exact ⟨k + 2, acc ++ [34], 0, HX.out, by omega, by omega, by simp; omega, .inl ⟨rfl, rfl, HN.out⟩⟩
                · obtain rfl : cd = 92 := by rw [← hcd]; rfl
                  have HIX : Hid (∀ w, Calls Tryd.prog 48 #[.string ⟨#[110, 116, 114]⟩, .int .u8 92] w fun e w' => e = .returned (.int .i64 (-1)) ∧ w = w') := (show ∀ w, Calls Tryd.prog 48 #[.string ⟨#[110, 116, 114]⟩, .int .u8 92] w fun e w' => e = .returned (.int .i64 (-1)) ∧ w = w' from fun w => idx_ntr 92 (-1) (by decide) w)
                  have HP := Lib.hid fun v' W' o => HA7.out.push (v' := v') (W' := W') (o := o) 92
                  have HN := Lib.hid (show Js.txtL (s.drop (k + 2)) (acc ++ [92]) = R by rw [← HQ.out, HDQ.out, Js.txtL_b (x := 92) (by decide)])
                  clear hesc hcd HDQ HQ HC
                  go_wp2_with (first | (go_at_call 48; refine (HIX.out _).mono ?_; rintro e w' ⟨rfl, rfl⟩) | (at_builtin; refine wpList_append_k (ys := [.int .u8 (92 : Int)]) rfl _ _ 22 5 (.int .u8 0) 1 1 rfl Tryd.underlying22 info5 rfl (by decide) B _ _ _ rfl hown rfl W6.heap.size (by simp) rfl (fun u hu => by simp at hu; subst hu; rfl) q1 q2 hsz ?_; intro v' w2 hown' hgrow))
                  have HX := Lib.hid (HP.out v' w2 _ hown' hgrow)
                  clear hown hown' hgrow
                  go_wp2_with fail
                  go_roundg (s.length - (k + 2) + 1)
                  case measure => omega
                  case rel => exact ⟨k + 2, acc ++ [92], 0, HX.out, by omega, by omega, by simp; omega, .inl ⟨rfl, rfl, HN.out⟩⟩
                · obtain rfl : cd = 47 := by rw [← hcd]; rfl
                  have HIX : Hid (∀ w, Calls Tryd.prog 48 #[.string ⟨#[110, 116, 114]⟩, .int .u8 47] w fun e w' => e = .returned (.int .i64 (-1)) ∧ w = w') := (show ∀ w, Calls Tryd.prog 48 #[.string ⟨#[110, 116, 114]⟩, .int .u8 47] w fun e w' => e = .returned (.int .i64 (-1)) ∧ w = w' from fun w => idx_ntr 47 (-1) (by decide) w)
                  have HP := Lib.hid fun v' W' o => HA7.out.push (v' := v') (W' := W') (o := o) 47
                  have HN := Lib.hid (show Js.txtL (s.drop (k + 2)) (acc ++ [47]) = R by rw [← HQ.out, HDQ.out, Js.txtL_b (x := 47) (by decide)])
                  clear hesc hcd HDQ HQ HC
                  go_wp2_with (first | (go_at_call 48; refine (HIX.out _).mono ?_; rintro e w' ⟨rfl, rfl⟩) | (at_builtin; refine wpList_append_k (ys := [.int .u8 (47 : Int)]) rfl _ _ 22 5 (.int .u8 0) 1 1 rfl Tryd.underlying22 info5 rfl (by decide) B _ _ _ rfl hown rfl W6.heap.size (by simp) rfl (fun u hu => by simp at hu; subst hu; rfl) q1 q2 hsz ?_; intro v' w2 hown' hgrow))
                  have HX := Lib.hid (HP.out v' w2 _ hown' hgrow)
                  clear hown hown' hgrow
                  go_wp2_with fail
                  go_roundg (s.length - (k + 2) + 1)
                  case measure => omega
                  case rel => exact ⟨k + 2, acc ++ [47], 0, HX.out, by omega, by omega, by simp; omega, .inl ⟨rfl, rfl, HN.out⟩⟩
                · obtain rfl : cd = 110 := by rw [← hcd]; rfl
                  have HIX : Hid (∀ w, Calls Tryd.prog 48 #[.string ⟨#[110, 116, 114]⟩, .int .u8 110] w fun e w' => e = .returned (.int .i64 (0)) ∧ w = w') := (show ∀ w, Calls Tryd.prog 48 #[.string ⟨#[110, 116, 114]⟩, .int .u8 110] w fun e w' => e = .returned (.int .i64 (0)) ∧ w = w' from fun w => idx_ntr 110 (0) (by decide) w)
                  have HP := Lib.hid fun v' W' o => HA7.out.push (v' := v') (W' := W') (o := o) 10
                  have HN := Lib.hid (show Js.txtL (s.drop (k + 2)) (acc ++ [10]) = R by rw [← HQ.out, HDQ.out, Js.txtL_b (x := 10) (by decide)])
                  clear hesc hcd HDQ HQ HC
                  go_wp2_with (first | (go_at_call 48; refine (HIX.out _).mono ?_; rintro e w' ⟨rfl, rfl⟩) | (at_builtin; refine wpList_append_k (ys := [.int .u8 (10 : Int)]) rfl _ _ 22 5 (.int .u8 0) 1 1 rfl Tryd.underlying22 info5 rfl (by decide) B _ _ _ rfl hown rfl W6.heap.size (by simp) rfl (fun u hu => by simp at hu; subst hu; rfl) q1 q2 hsz ?_; intro v' w2 hown' hgrow))
                  have HX := Lib.hid (HP.out v' w2 _ hown' hgrow)
                  clear hown hown' hgrow
                  go_wp2_with fail
                  go_roundg (s.length - (k + 2) + 1)
                  case measure => omega
                  case rel => exact ⟨k + 2, acc ++ [10], 0, HX.out, by omega, by omega, by simp; omega, .inl ⟨rfl, rfl, HN.out⟩⟩
                · obtain rfl : cd = 116 := by rw [← hcd]; rfl
                  have HIX : Hid (∀ w, Calls Tryd.prog 48 #[.string ⟨#[110, 116, 114]⟩, .int .u8 116] w fun e w' => e = .returned (.int .i64 (1)) ∧ w = w') := (show ∀ w, Calls Tryd.prog 48 #[.string ⟨#[110, 116, 114]⟩, .int .u8 116] w fun e w' => e = .returned (.int .i64 (1)) ∧ w = w' from fun w => idx_ntr 116 (1) (by decide) w)
                  have HP := Lib.hid fun v' W' o => HA7.out.push (v' := v') (W' := W') (o := o) 9
                  have HN := Lib.hid (show Js.txtL (s.drop (k + 2)) (acc ++ [9]) = R by rw [← HQ.out, HDQ.out, Js.txtL_b (x := 9) (by decide)])
                  clear hesc hcd HDQ HQ HC
                  go_wp2_with (first | (go_at_call 48; refine (HIX.out _).mono ?_; rintro e w' ⟨rfl, rfl⟩) | (at_builtin; refine wpList_append_k (ys := [.int .u8 (9 : Int)]) rfl _ _ 22 5 (.int .u8 0) 1 1 rfl Tryd.underlying22 info5 rfl (by decide) B _ _ _ rfl hown rfl W6.heap.size (by simp) rfl (fun u hu => by simp at hu; subst hu; rfl) q1 q2 hsz ?_; intro v' w2 hown' hgrow))
                  have HX := Lib.hid (HP.out v' w2 _ hown' hgrow)
                  clear hown hown' hgrow
                  go_wp2_with fail
                  go_roundg (s.length - (k + 2) + 1)
                  case measure => omega
                  case rel => exact ⟨k + 2, acc ++ [9], 0, HX.out, by omega, by omega, by simp; omega, .inl ⟨rfl, rfl, HN.out⟩⟩
                · obtain rfl : cd = 114 := by rw [← hcd]; rfl
                  have HIX : Hid (∀ w, Calls Tryd.prog 48 #[.string ⟨#[110, 116, 114]⟩, .int .u8 114] w fun e w' => e = .returned (.int .i64 (2)) ∧ w = w') := (show ∀ w, Calls Tryd.prog 48 #[.string ⟨#[110, 116, 114]⟩, .int .u8 114] w fun e w' => e = .returned (.int .i64 (2)) ∧ w = w' from fun w => idx_ntr 114 (2) (by decide) w)
                  have HP := Lib.hid fun v' W' o => HA7.out.push (v' := v') (W' := W') (o := o) 13
                  have HN := Lib.hid (show Js.txtL (s.drop (k + 2)) (acc ++ [13]) = R by rw [← HQ.out, HDQ.out, Js.txtL_b (x := 13) (by decide)])
                  clear hesc hcd HDQ HQ HC
                  go_wp2_with (first | (go_at_call 48; refine (HIX.out _).mono ?_; rintro e w' ⟨rfl, rfl⟩) | (at_builtin; refine wpList_append_k (ys := [.int .u8 (13 : Int)]) rfl _ _ 22 5 (.int .u8 0) 1 1 rfl Tryd.underlying22 info5 rfl (by decide) B _ _ _ rfl hown rfl W6.heap.size (by simp) rfl (fun u hu => by simp at hu; subst hu; rfl) q1 q2 hsz ?_; intro v' w2 hown' hgrow))
                  have HX := Lib.hid (HP.out v' w2 _ hown' hgrow)
                  clear hown hown' hgrow
                  go_wp2_with fail
                  go_roundg (s.length - (k + 2) + 1)
                  case measure => omega
                  case rel => exact ⟨k + 2, acc ++ [13], 0, HX.out, by omega, by omega, by simp; omega, .inl ⟨rfl, rfl, HN.out⟩⟩
            · have r92 : ((c : Int) == 92) = false := by rw [beq_eq_false_iff_ne]; omega
              have n92 : b ≠ 92 := fun e => e92 (by rw [← HC.out, e]; rfl)
              have HN := Lib.hid (show Js.txtL (s.drop (k + 1)) (acc ++ [b]) = R by rw [← HQ.out, HDR.out, Js.txtL_o t4' n34 n92])
              have HP := Lib.hid fun v' W' o => HA.out.push (v' := v') (W' := W') (o := o) b
              rw [HC.out] at HP
              clear n34 n92 e34 e92 t4' HDR HQ
              go_wp2_with (at_builtin; refine wpList_append_k (ys := [.int .u8 (c : Int)]) rfl _ _ 22 5 (.int .u8 0) 1 1 rfl Tryd.underlying22 info5 rfl (by decide) B _ _ _ rfl hown rfl Wr.heap.size (by simp) rfl (fun u hu => by simp at hu; subst hu; rfl) q1 q2 hsz ?_; intro v' w2 hown' hgrow)
              have HX := Lib.hid (HP.out v' w2 _ hown' hgrow)
              clear hown hown' hgrow
              go_wp2_with fail
              go_roundg (s.length - (k + 1) + 1)
              case measure => omega
              case rel => exact ⟨k + 1, acc ++ [b], 0, HX.out, by omega, by omega, by simp; omega, .inl ⟨rfl, rfl, HN.out⟩⟩
      · have t : decide ((s.length : Int) ≤ (k : Int)) = true := decide_eq_true (by omega)
        have t' : decide (s.length ≤ k) = true := decide_eq_true (by omega)
        have HF := Lib.hid fun q => fail_ok (HT.out.d.drewN q) 1
        have HN := Lib.hid (show R = none by rw [← HQ.out, List.drop_of_length_le (by omega), Js.txtL])
        go_wp2_with fail
        go_quiet (fail)
        go_wp2_with fail
        refine (HF.out _).mono ?_
        rintro e w2 ⟨rfl, hd2⟩
        have H2 := Lib.hid (show DER w0 g s s.length 1 w2 from ⟨by decide, k, fs, by omega, hd2, by omega⟩)
        clear hd2
        go_wp2_with fail
        go_ret
        rw [HN.out]
        exact ⟨rfl, H2.out⟩
    · have HT := Lib.hid hT
      have HN := Lib.hid hq
      have c2 := hT.d.c2
      have H2 := Lib.hid (show DER w0 g s s.length 1 wr from ⟨by decide, k, fs, by omega, hT.d, by omega⟩)
      clear hT hq HST
      go_wp2_with fail
      go_ret
      rw [HN.out]
      exact ⟨rfl, H2.out⟩

theorem text_any {w0 W : World} {g : Nat} {s r : List UInt8} {fs : List Fd} (h : DOK w0 g s r fs W) (hs : s.length ≤ 1000) :
    Calls Tryd.prog 52 #[.pointer (some ⟨g, 0, none⟩)] W (TxtPost w0 g s fs (Js.txt r)) := by
  unfold Js.txt
  cases hx : Js.exp 34 r with
  | none => exact text_none h hs hx
  | some r0 => exact text_some h hs hx

end Go.Proofs.YtfdbjgdafolbmaaDoor

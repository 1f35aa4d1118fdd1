/-
  The decoder: number.
-/
import Derived.Test.YtfdbjgdafolbmaaDoorJsC
namespace Go.Proofs.YtfdbjgdafolbmaaDoor
open Go.RowKit Go.Sort Go.Shelf

theorem dg_in (c : UInt8) : [48, 49, 50, 51, 52, 53, 54, 55, 56, 57].contains c = Js.dg c := by
  have h : ∀ n : Fin 256, [48, 49, 50, 51, 52, 53, 54, 55, 56, 57].contains (UInt8.ofNat n.val) = Js.dg (UInt8.ofNat n.val) := by decide +kernel
  have := h ⟨c.toNat, c.toNat_lt⟩
  simpa using this

/-- The sign. -/
theorem num_take {w0 W : World} {g k : Nat} {s : List UInt8} {fs : List Fd} (hd : DAt w0 g s k 0 fs W) (hk : k ≤ s.length) (hs : s.length ≤ 1000) (hfk : fs.length ≤ k) :
    ∃ b f, k ≤ f ∧ f ≤ s.length ∧ s.drop f = Js.unsgn (s.drop k) ∧ Asc.seg s k f = Js.sgn (s.drop k) ∧
      Calls Tryd.prog 51 #[.pointer (some ⟨g, 0, none⟩), .string ⟨#[45]⟩] W fun e w' => e = .returned (.bool b) ∧ DAt w0 g s f 0 fs w' := by
  have hlen : fs.length + (s.drop k).length ≤ s.length := by rw [List.length_drop]; omega
  by_cases hh : (s.drop k).head? = some 45
  · obtain ⟨r, hr⟩ : ∃ r, s.drop k = 45 :: r := by
      revert hh
      cases s.drop k with
      | nil => intro h; cases h
      | cons c r => intro h; injection h with h; exact ⟨r, by rw [h]⟩
    obtain ⟨h1, h2, h3⟩ := drop_head hr
    refine ⟨true, k + 1, by omega, h1, by rw [h3, hr]; rfl, by rw [Asc.seg_snoc s (Nat.le_refl _) h1, Asc.seg_same, h2, hr]; rfl, ?_⟩
    refine (takes_yes (r := r) (c := 45) ⟨k, hk, hr, hd, by rw [← hr]; exact hlen⟩ hs).mono fun e w' ⟨he, j, hj, hjr, hjd, _⟩ => ⟨he, ?_⟩
    have : j = k + 1 := by
      have e1 := congrArg List.length hjr
      have e2 := congrArg List.length h3
      rw [List.length_drop] at e1 e2
      omega
    rw [← this]; exact hjd
  · refine ⟨false, k, Nat.le_refl _, hk, by unfold Js.unsgn; rw [if_neg hh], by rw [Asc.seg_same]; unfold Js.sgn; rw [if_neg hh], ?_⟩
    refine (takes_no (c := 45) ⟨k, hk, rfl, hd, hlen⟩ hh).mono fun e w' ⟨he, j, hj, hjr, hjd, _⟩ => ⟨he, ?_⟩
    have : j = k := by
      have e1 := congrArg List.length hjr
      rw [List.length_drop, List.length_drop] at e1
      omega
    rw [← this]; exact hjd

theorem tw_cons {c : UInt8} {q : List UInt8} (hd : Js.dg c = true) : (c :: q).takeWhile Js.dg = c :: q.takeWhile Js.dg ∧ (c :: q).dropWhile Js.dg = q.dropWhile Js.dg := by simp [hd]
theorem tw_stop {c : UInt8} {q : List UInt8} (hd : Js.dg c = false) : (c :: q).takeWhile Js.dg = [] ∧ (c :: q).dropWhile Js.dg = c :: q := by simp [hd]
theorem tw_step {s : List UInt8} {j : Nat} (h : j < s.length) (hd : Js.dg s[j] = true) : (s.drop j).takeWhile Js.dg = s[j] :: (s.drop (j + 1)).takeWhile Js.dg ∧ (s.drop j).dropWhile Js.dg = (s.drop (j + 1)).dropWhile Js.dg := by
  rw [Asc.drop_cons h]
  exact tw_cons hd
theorem tw_end {s : List UInt8} {j : Nat} (hd : ∀ h : j < s.length, Js.dg s[j] = false) : (s.drop j).takeWhile Js.dg = [] ∧ (s.drop j).dropWhile Js.dg = s.drop j := by
  rcases Nat.lt_or_ge j s.length with h | h
  · rw [Asc.drop_cons h]
    exact tw_stop (hd h)
  · rw [List.drop_of_length_le h]; exact ⟨rfl, rfl⟩
/-- What the loop of number keeps. -/
structure NR (s : List UInt8) (f j : Nat) : Prop where
  le : f ≤ j
  hi : j ≤ s.length
  tw : (s.drop f).takeWhile Js.dg = Asc.seg s f j ++ (s.drop j).takeWhile Js.dg
  dw : (s.drop f).dropWhile Js.dg = (s.drop j).dropWhile Js.dg
theorem NR.next {s : List UInt8} {f j : Nat} (h : NR s f j) (hj : j < s.length) (hd : Js.dg s[j] = true) : NR s f (j + 1) := by
  obtain ⟨h1, h2⟩ := tw_step hj hd
  refine ⟨by have := h.le; omega, hj, ?_, by rw [h.dw, h2]⟩
  rw [h.tw, h1, Asc.seg_snoc s h.le hj]
  simp
theorem NR.end {s : List UInt8} {f j : Nat} (h : NR s f j) (hd : ∀ h : j < s.length, Js.dg s[j] = false) : (s.drop f).takeWhile Js.dg = Asc.seg s f j ∧ (s.drop f).dropWhile Js.dg = s.drop j := by
  obtain ⟨h1, h2⟩ := tw_end hd
  rw [h.tw, h.dw, h1, h2, List.append_nil]
  exact ⟨rfl, rfl⟩

set_option maxRecDepth 100000 in
set_option maxHeartbeats 4000000 in
theorem number_any {w0 W : World} {g : Nat} {s r : List UInt8} {fs : List Fd} (h : DOK w0 g s r fs W) (hs : s.length ≤ 1000) :
    Calls Tryd.prog 66 #[.pointer (some ⟨g, 0, none⟩)] W (TxtPost w0 g s fs (Js.num r)) := by
  obtain ⟨k, hk, hr, hd, hl⟩ := h
  subst hr
  have hfk : fs.length ≤ k := by rw [List.length_drop] at hl; omega
  obtain ⟨b, f, hf1, hf2, hf3, hf4, hcall⟩ := num_take hd hk hs hfk
  have HT := Lib.hid hcall
  have HU := Lib.hid hf3
  have HG := Lib.hid hf4
  have c1 := hd.c1
  obtain ⟨R, hR⟩ : ∃ R, Js.num (s.drop k) = R := ⟨_, rfl⟩
  rw [hR]
  have HR := Lib.hid hR
  clear hd hl hcall hf3 hf4 hR
  go_enter Tryd.func66, Tryd.ntmps66
  go_wp2_with (go_at_call 51; refine HT.out.mono ?_)
  rintro e w1 ⟨rfl, hd1⟩
  have H1 := Lib.hid hd1
  have d1 := hd1.c1
  clear hd1 HT
  go_wp2_with fail
  go_loopg [15] (s.length - f) (fun m _ wr => ∃ j, j + m = s.length ∧ NR s f j ∧ DAt w0 g s j 0 fs wr)
  case atStart => exact ⟨f, by omega, ⟨Nat.le_refl _, hf2, by rw [Asc.seg_same]; rfl, rfl⟩, H1.out⟩
  case round =>
    obtain ⟨j, hj, hn, hdj⟩ := hrel
    have HN := Lib.hid hn
    have HD := Lib.hid hdj
    have hn1 := hn.le
    clear hn hdj H1
    by_cases hgo : ∃ hlt : j < s.length, Js.dg s[j] = true
    · obtain ⟨hlt, hdg⟩ := hgo
      have HS := Lib.hid (sees_at HD.out hlt [48, 49, 50, 51, 52, 53, 54, 55, 56, 57] true (by rw [dg_in]; exact hdg))
      have HX := Lib.hid (HN.out.next hlt hdg)
      clear hdg
      go_wp2_with fail
      refine HS.out.mono ?_
      rintro e w2 ⟨rfl, hd2⟩
      have e1 := hd2.c1
      have f1 := hd2.fz 1
      have H2 := Lib.hid (hd2.at (j + 1))
      clear hd2
      go_wp2_with fail
      go_roundg (s.length - (j + 1))
      case measure => omega
      case rel => exact ⟨j + 1, by omega, HX.out, H2.out⟩
    · have hno : ∀ h : j < s.length, Js.dg s[j] = false := fun h => by
        cases e : Js.dg s[j]
        · rfl
        · exact absurd ⟨h, e⟩ hgo
      obtain ⟨ht, hdw⟩ := HN.out.end hno
      have HS : Hid (Calls Tryd.prog 49 #[.pointer (some ⟨g, 0, none⟩), .string ⟨#[48, 49, 50, 51, 52, 53, 54, 55, 56, 57]⟩] wr fun e w' => e = .returned (.bool false) ∧ DAt w0 g s j 0 fs w') := by
        rcases Nat.lt_or_ge j s.length with h5 | h5
        · exact sees_at HD.out h5 [48, 49, 50, 51, 52, 53, 54, 55, 56, 57] false (by rw [dg_in]; exact hno h5)
        · exact sees_end HD.out h5 [48, 49, 50, 51, 52, 53, 54, 55, 56, 57]
      have hrr := HR.out
      unfold Js.num at hrr
      rw [← HU.out, ht, hdw, ← HG.out, Asc.seg_append s hf1 hn1] at hrr
      have HRR := Lib.hid hrr
      have hsl := Asc.seg_length s (a := f) (b := j) (by omega)
      have HSL := Lib.hid hsl
      clear hno hgo ht hdw hrr HN HD hsl
      go_wp2_with fail
      refine HS.out.mono ?_
      rintro e w2 ⟨rfl, hd2⟩
      have H2 := Lib.hid hd2
      have e1 := hd2.c1
      have e0 := hd2.c0
      clear hd2 HS
      rcases Nat.eq_or_lt_of_le hn1 with hjf | hjf
      · subst hjf
        have t1 : ((f : Int) == (f : Int)) = true := beq_self_eq_true _
        have HZ := Lib.hid (show R = none by
          have := HRR.out
          rw [Asc.seg_same, if_pos (.inl rfl)] at this
          exact this.symm)
        have HF := Lib.hid (fail_ok H2.out 1)
        clear HRR
        go_wp2_with fail
        refine HF.out.mono ?_
        rintro e w3 ⟨rfl, hd3⟩
        have H3 := Lib.hid (show DER w0 g s s.length 1 w3 from ⟨by decide, f, fs, by omega, hd3, by omega⟩)
        clear hd3
        go_wp2_with fail
        go_ret
        rw [HZ.out]
        exact ⟨rfl, H3.out⟩
      · have t1 : ((j : Int) == (f : Int)) = false := by rw [beq_eq_false_iff_ne]; omega
        have hfl : f < s.length := by omega
        obtain ⟨c, ⟨_, hy⟩, hcc, hc2⟩ := byte_at s f hfl
        have i1 : (f : Int) < (s.length : Int) := by omega
        have i2 : (0 : Int) ≤ (f : Int) := by omega
        have hne : Asc.seg s f j ≠ [] := by
          intro e
          have := HSL.out
          rw [e] at this
          simp at this
          omega
        have hhd : (Js.unsgn (s.drop k)).head? = some s[f] := by rw [← HU.out, Asc.drop_cons hfl]; rfl
        by_cases hz : c = 48 ∧ f + 1 < j
        · obtain ⟨rfl, hz2⟩ := hz
          have t3 : decide ((f : Int) + 1 < (j : Int)) = true := decide_eq_true (by omega)
          have hb48 : s[f] = 48 := UInt8.toNat_inj.1 hcc
          have HZ := Lib.hid (show R = none by
            have := HRR.out
            rw [if_pos (.inr ⟨by rw [HU.out, hhd, hb48], by rw [HSL.out]; omega⟩)] at this
            exact this.symm)
          have HF := Lib.hid (fail_ok H2.out 1)
          clear HRR hb48 hhd hne hcc
          go_wp2_with fail
          refine HF.out.mono ?_
          rintro e w3 ⟨rfl, hd3⟩
          have H3 := Lib.hid (show DER w0 g s s.length 1 w3 from ⟨by decide, j, fs, by omega, hd3, by omega⟩)
          clear hd3
          go_wp2_with fail
          go_ret
          rw [HZ.out]
          exact ⟨rfl, H3.out⟩
        · have HZ := Lib.hid (show R = some (Asc.seg s k j, s.drop j) by
            have := HRR.out
            rw [if_neg (fun h => h.elim hne (fun h => hz ⟨by rw [HU.out, hhd] at h; have := h.1; injection this with this; rw [← hcc, this]; rfl, by have := h.2; rw [HSL.out] at this; omega⟩))] at this
            exact this.symm)
          have hex := Asc.extract_seg s k j
          have i3 : (k : Int) ≤ (j : Int) := by omega
          have i4 : (j : Int) ≤ (s.length : Int) := by omega
          have i5 : (0 : Int) ≤ (k : Int) := by omega
          clear HRR hhd hne hcc
          by_cases h48 : c = 48
          · subst h48
            have t3 : decide ((f : Int) + 1 < (j : Int)) = false := decide_eq_false (fun h => hz ⟨rfl, by omega⟩)
            clear hz
            go_wp2_with fail
            go_quiet (fail)
            go_wp2_with fail
            go_ret
            rw [HZ.out]
            exact ⟨rfl, j, by omega, rfl, H2.out.drewN _, by rw [List.length_drop]; omega⟩
          · have t2 : ((c : Int) == 48) = false := by rw [beq_eq_false_iff_ne]; omega
            clear hz
            go_wp2_with fail
            go_quiet (fail)
            go_wp2_with fail
            go_ret
            rw [HZ.out]
            exact ⟨rfl, j, by omega, rfl, H2.out.drewN _, by rw [List.length_drop]; omega⟩

end Go.Proofs.YtfdbjgdafolbmaaDoor

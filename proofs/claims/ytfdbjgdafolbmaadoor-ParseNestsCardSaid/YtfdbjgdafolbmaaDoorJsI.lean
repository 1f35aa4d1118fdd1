/-
  The decoder: object.
-/
import Derived.Test.YtfdbjgdafolbmaaDoorJsH
namespace Go.Proofs.YtfdbjgdafolbmaaDoor
open Go.RowKit Go.Sort Go.Shelf

/-- The error as the walk reads it. -/
theorem St.c2ok {w0 W : World} {g b : Nat} {s r : List UInt8} {fs : List Fd} (h : St w0 g s b (.ok r fs) W) : W.cell? ⟨g, 2, none⟩ = some (.int .i64 0) := by
  obtain ⟨k, hk, hr, hd, hl⟩ := h
  exact hd.c2
theorem St.c2er {w0 W : World} {g b c : Nat} {s : List UInt8} (h : St w0 g s b (.er c) W) : W.cell? ⟨g, 2, none⟩ = some (.int .i64 c) ∧ ((c : Int) == 0) = false := by
  obtain ⟨hc, k, fs, hk, hd, hl⟩ := h
  exact ⟨hd.c2, by rw [beq_eq_false_iff_ne]; omega⟩

set_option maxRecDepth 100000 in
set_option maxHeartbeats 2000000 in
theorem object_0 {w0 W : World} {g : Nat} {s pre r : List UInt8} {fs : List Fd} (h : DOK w0 g s r fs W) (hs : s.length ≤ 1000) :
    Calls Tryd.prog 32 #[.pointer (some ⟨g, 0, none⟩), .string ⟨pre.toArray⟩, .int .i64 9] W fun e w' => e = .returned (.tuple #[]) ∧ St w0 g s 1 (Js.resS fs (Js.obj 0 pre r)) w' := by
  have HB := Lib.hid (blanksOK h hs)
  obtain ⟨q, hq⟩ : ∃ q, Js.blk r = q := ⟨_, rfl⟩
  rw [Js.obj, hq]
  rw [hq] at HB
  have HX := Lib.hid (show Js.exp 123 q = Js.exp 123 r by rw [← hq, Js.exp_blk])
  by_cases hh : q.head? = some 123
  · rw [if_pos hh]
    have hd1 : hd [123] q = true := by
      revert hh
      cases q with
      | nil => intro h; cases h
      | cons c t => intro h; injection h with h; simp [hd, h]
    have HS := Lib.hid fun W h => sees_ok (w0 := w0) (g := g) (s := s) (r := q) (fs := fs) (W := W) h [123] true hd1
    clear h hq hh hd1 HX
    go_enter Tryd.func32, Tryd.ntmps32
    go_wp2_with (go_at_call 33; refine HB.out.mono ?_)
    rintro e w1 ⟨rfl, h1⟩
    have H1 := Lib.hid h1
    clear h1 HB
    go_wp2_with fail
    refine (HS.out w1 H1.out).mono ?_
    rintro e w2 ⟨rfl, h2⟩
    have H2 := Lib.hid h2
    clear h2 H1
    go_wp2_with fail
    refine (failOK H2.out 5 (by decide)).mono ?_
    rintro e w3 ⟨rfl, hc, k, fs', hk, hd, hl⟩
    have H3 := Lib.hid (show St w0 g s 1 (.er 5) w3 from ⟨hc, k, fs', hk, hd, by omega⟩)
    clear hc hd hl
    go_wp2_with fail
    refine bodyPost_ret (results_none rfl _ _ _) rfl ?_
    exact ⟨rfl, H3.out⟩
  · rw [if_neg hh]
    have hd1 : hd [123] q = false := by
      cases q with
      | nil => rfl
      | cons c t =>
        have hc : c ≠ 123 := fun e => hh (by rw [e]; rfl)
        simp [hd, hc]
    have HS := Lib.hid fun W h => sees_ok (w0 := w0) (g := g) (s := s) (r := q) (fs := fs) (W := W) h [123] false hd1
    have HE := Lib.hid fun W h => expectS (w0 := w0) (g := g) (s := s) (b := 1) (x := .ok q fs) (c := 123) (W := W) h hs
    have hx : Js.expS 123 (.ok q fs) = .er 1 := by
      have : Js.exp 123 q = none := by
        unfold Js.exp
        rw [← hq, Js.blk_blk, hq, if_neg hh]
      simp only [Js.expS, this]
    rw [hx] at HE
    clear h hq hh hd1 HX hx
    go_enter Tryd.func32, Tryd.ntmps32
    go_wp2_with (go_at_call 33; refine HB.out.mono ?_)
    rintro e w1 ⟨rfl, h1⟩
    have H1 := Lib.hid h1
    clear h1 HB
    go_wp2_with fail
    refine (HS.out w1 H1.out).mono ?_
    rintro e w2 ⟨rfl, h2⟩
    have H2 := Lib.hid h2
    clear h2 H1
    go_wp2_with fail
    refine (HE.out w2 H2.out).mono ?_
    rintro e w3 ⟨rfl, h3⟩
    have H3 := Lib.hid h3
    clear h3 H2
    go_wp2_with fail
    refine (blanksS H3.out hs).mono ?_
    rintro e w4 ⟨rfl, h4⟩
    have H4 := Lib.hid h4
    clear h4 H3
    go_wp2_with fail
    refine (takesS (c := 125) H4.out hs).mono ?_
    rintro e w5 ⟨rfl, h5⟩
    have h5' : St w0 g s 1 (.er 1) w5 := h5
    have H5 := Lib.hid h5'
    obtain ⟨e2, t2⟩ := h5'.c2er
    have tk : Js.takB 125 (Js.blkS (.er 1)) = false := rfl
    rw [tk]
    clear h5 h5' H4 tk
    go_wp2_with fail
    refine wp_loop_rounds 1 ?_
    rw [rounds_succ]
    go_wp2_with fail
    go_end0
    exact ⟨rfl, H5.out⟩

/-- What the loop of object keeps. -/
def ORel (w0 : World) (g : Nat) (s pre : List UInt8) (fs : List Fd) (ob : List UInt8 → List UInt8 → Js.Res) (T : Js.Res) (n : Nat) (W : World) : Prop :=
  (∃ r acc, St w0 g s 1 (.ok r (fs ++ acc)) W ∧ r.length < n ∧ T = Js.comb acc (Js.mem (Js.val ob) pre n r)) ∨ (∃ c, St w0 g s 1 (.er c) W ∧ T = .err c ∧ n = 0)

set_option maxRecDepth 100000 in
set_option maxHeartbeats 4000000 in
theorem object_s {w0 W : World} {g : Nat} {s pre r : List UInt8} {fs : List Fd} (m : Nat) {dp : Int} (h : DOK w0 g s r fs W) (hs : s.length ≤ 1000) (d0 : 0 ≤ dp) (d1 : dp ≤ 8) (hp : pre.length ≤ 20000)
    (IH : ∀ pre' r' fs' W', DOK w0 g s r' fs' W' → pre'.length ≤ pre.length + 2000 → Calls Tryd.prog 32 #[.pointer (some ⟨g, 0, none⟩), .string ⟨pre'.toArray⟩, .int .i64 (dp + 1)] W' fun e w' => e = .returned (.tuple #[]) ∧ St w0 g s 1 (Js.resS fs' (Js.obj m pre' r')) w') :
    Calls Tryd.prog 32 #[.pointer (some ⟨g, 0, none⟩), .string ⟨pre.toArray⟩, .int .i64 dp] W fun e w' => e = .returned (.tuple #[]) ∧ St w0 g s 1 (Js.resS fs (Js.obj (m + 1) pre r)) w' := by
  have HB := Lib.hid (blanksS (b := 1) (x := .ok r fs) h hs)
  have hrl : r.length ≤ s.length := by
    obtain ⟨k, hk, hr, hd, hl⟩ := h
    omega
  have t8 : decide (8 < dp) = false := decide_eq_false (by omega)
  have HI := Lib.hid IH
  obtain ⟨T, hT⟩ : ∃ T, Js.obj (m + 1) pre r = T := ⟨_, rfl⟩
  rw [hT]
  have HT := Lib.hid hT
  clear h hT IH
  go_enter Tryd.func32, Tryd.ntmps32
  go_wp2_with (go_at_call 33; refine HB.out.mono ?_)
  rintro e w1 ⟨rfl, h1⟩
  have H1 := Lib.hid h1
  clear h1 HB
  go_wp2_with fail
  refine (expectS (c := 123) H1.out hs).mono ?_
  rintro e w2 ⟨rfl, h2⟩
  have H2 := Lib.hid h2
  clear h2 H1
  go_wp2_with fail
  refine (blanksS H2.out hs).mono ?_
  rintro e w3 ⟨rfl, h3⟩
  have H3 := Lib.hid h3
  clear h3 H2
  go_wp2_with fail
  refine (takesS (c := 125) H3.out hs).mono ?_
  rintro e w4 ⟨rfl, h4⟩
  have H4 := Lib.hid h4
  clear h4 H3
  obtain ⟨x, hx⟩ : ∃ x, Js.blkS (Js.expS 123 (Js.blkS (.ok r fs))) = x := ⟨_, rfl⟩
  rw [hx] at H4 ⊢
  have HX := Lib.hid hx
  clear hx
  cases hb : Js.takB 125 x
  · have HST0 := Lib.hid (show ∃ N, ORel w0 g s pre fs (Js.obj m) T N w4 by
      have hx := HX.out
      have hT := HT.out
      have h4 := H4.out
      simp only [Js.blkS, Js.expS, Js.exp_blk] at hx
      rw [Js.obj] at hT
      cases he : Js.exp 123 r with
      | none =>
        rw [he] at hx hT
        subst hx
        exact ⟨0, .inr ⟨1, h4, hT.symm, rfl⟩⟩
      | some r1 =>
        rw [he] at hx hT
        subst hx
        simp only [Js.takB, decide_eq_false_iff_not] at hb
        simp only at hT
        rw [if_neg hb] at hT
        have h5 : St w0 g s 1 (.ok (Js.blk r1) (fs ++ [])) w4 := by
          have : Js.takS 125 (Js.blkS (.ok r1 fs)) = .ok (Js.blk r1) (fs ++ []) := by
            simp only [Js.takS, Js.blkS, List.append_nil]
            rw [if_neg hb]
          rw [← this]; exact h4
        refine ⟨1000, .inl ⟨Js.blk r1, [], h5, ?_, ?_⟩⟩
        · have := Js.exp_len he
          have := Js.blk_len r1
          omega
        · rw [← hT, ← Js.mem_blk]
          show _ = Js.comb [] (Js.mem (Js.val (Js.obj m)) pre 1000 (Js.blk r1))
          cases Js.mem (Js.val (Js.obj m)) pre 1000 (Js.blk r1) <;> rfl)
    obtain ⟨N, hST⟩ := HST0.out
    have HST := Lib.hid hST
    clear hST HST0
    clear H4 HX HT hb
    go_wp2_with fail
    go_loopg [23] N (fun n _ wr => ORel w0 g s pre fs (Js.obj m) T n wr)
    case atStart => exact HST.out
    case round =>
      rcases hrel with ⟨rr, acc, hst, hlen, hTT⟩ | ⟨c, hst, hTT, hz⟩
      · have e2 := hst.c2ok
        have HTT := Lib.hid hTT
        have H0 := Lib.hid hst
        clear hst hTT HST
        obtain ⟨n, rfl⟩ : ∃ n, gk = n + 1 := ⟨gk - 1, by omega⟩
        go_wp2_with fail
        refine (blanksOK H0.out hs).mono ?_
        rintro e w5 ⟨rfl, h5⟩
        have H5 := Lib.hid h5
        clear h5 H0 e2
        go_wp2_with fail
        refine (text_any H5.out hs).mono ?_
        intro e w6 h6
        rw [Js.txt_blk] at h6
        obtain ⟨rfl, h7⟩ := st_txt h6
        have H7 := Lib.hid h7
        have hvl : (Js.optV (Js.txt rr)).length ≤ 1000 := by
          cases ht : Js.txt rr with
          | none => simp [Js.optV]
          | some x =>
            have h8 : Js.txt (Js.blk rr) = some x := by rw [Js.txt_blk]; exact ht
            have := (Js.txt_len h8).2
            obtain ⟨k, hk, hr, hd, hl⟩ := H5.out
            simp only [Js.optV]
            omega
        obtain ⟨V, hV⟩ : ∃ V, Js.optV (Js.txt rr) = V := ⟨_, rfl⟩
        rw [hV] at hvl ⊢
        have HV := Lib.hid hV
        have e1 : ByteArray.mk pre.toArray ++ ByteArray.mk V.toArray = ⟨(pre ++ V).toArray⟩ := ba_app pre V
        have E1 := Lib.hid e1
        clear h6 h7 H5 hV e1
        go_wp2_with fail
        refine (expectS (c := 58) H7.out hs).mono ?_
        rintro e w8 ⟨rfl, h8⟩
        have H8 := Lib.hid h8
        clear h8 H7
        go_wp2_with fail
        rw [E1.out]
        refine (value_st (Js.obj m) H8.out hs (by simp; omega) d0 (by omega) (fun q fs' W' h' => HI.out _ _ _ W' h' (by simp; omega))).mono ?_
        rintro e w9 ⟨rfl, h9⟩
        have H9 := Lib.hid h9
        clear h9 H8
        go_wp2_with fail
        refine (blanksS H9.out hs).mono ?_
        rintro e w10 ⟨rfl, h10⟩
        have hy : Js.blkS (Js.valS (Js.obj m) (pre ++ V) (Js.expS 58 (Js.optS (fs ++ acc) (Js.txt rr)))) = Js.y4 (Js.obj m) pre rr (fs ++ acc) := by rw [← HV.out]; rfl
        rw [hy] at h10
        have H10 := Lib.hid h10
        clear h10 H9 hy
        go_wp2_with fail
        refine (takesS (c := 125) H10.out hs).mono ?_
        rintro e w11 ⟨rfl, h11⟩
        have H11 := Lib.hid h11
        clear h11 H10
        cases hb2 : Js.takB 125 (Js.y4 (Js.obj m) pre rr (fs ++ acc))
        · have hbn := Js.body_no (Js.obj m) (Js.obj_len m) pre rr fs acc n hb2
          have HBN := Lib.hid hbn
          clear hb2 hbn
          go_wp2_with fail
          refine (expectS (c := 44) H11.out hs).mono ?_
          rintro e w12 ⟨rfl, h12⟩
          have H12 := Lib.hid h12
          clear h12 H11
          have HN2 := Lib.hid (show ∃ N, N < n + 1 ∧ ORel w0 g s pre fs (Js.obj m) T N w12 by
            have h12 := H12.out
            rcases HBN.out with ⟨c, hc1, hc2⟩ | ⟨r', d, hc1, hc2, hc3⟩
            · rw [hc1] at h12
              exact ⟨0, by omega, .inr ⟨c, h12, HTT.out.trans hc2, rfl⟩⟩
            · rw [hc1] at h12
              exact ⟨n, by omega, .inl ⟨r', acc ++ d, h12, by omega, HTT.out.trans hc3⟩⟩)
          obtain ⟨N2, hN2, hR2⟩ := HN2.out
          have HR2 := Lib.hid hR2
          clear hR2 HN2 HBN H12 HTT
          go_wp2_with fail
          go_roundg N2
          case measure => omega
          case rel => exact HR2.out
        · have HF := Lib.hid (show St w0 g s 1 (Js.resS fs T) w11 by
            have h11 := H11.out
            rw [Js.body_yes (Js.obj m) pre rr fs acc n hb2] at h11
            rw [HTT.out]
            exact h11)
          clear hb2 H11 HTT
          go_wp2_with fail
          refine bodyPost_ret (results_none rfl _ _ _) rfl ?_
          exact ⟨rfl, HF.out⟩
      · obtain ⟨e2, t2⟩ := hst.c2er
        have H0 := Lib.hid hst
        have HTT := Lib.hid hTT
        clear hst hTT HST
        go_wp2_with fail
        go_end0
        rw [HTT.out]
        exact ⟨rfl, H0.out⟩
  · have HF := Lib.hid (show St w0 g s 1 (Js.resS fs T) w4 by
      have hx := HX.out
      have hT := HT.out
      have h4 := H4.out
      simp only [Js.blkS, Js.expS, Js.exp_blk] at hx
      rw [Js.obj] at hT
      cases he : Js.exp 123 r with
      | none => rw [he] at hx; subst hx; cases hb
      | some r1 =>
        rw [he] at hx hT
        subst hx
        simp only [Js.takB, decide_eq_true_iff] at hb
        simp only at hT
        rw [if_pos hb] at hT
        subst hT
        simp only [Js.takS, Js.resS, List.append_nil] at h4 ⊢
        rw [if_pos hb] at h4
        exact h4)
    clear H4 HX HT hb
    go_wp2_with fail
    refine bodyPost_ret (results_none rfl _ _ _) rfl ?_
    exact ⟨rfl, HF.out⟩

theorem object_any {w0 : World} {g : Nat} {s : List UInt8} (hs : s.length ≤ 1000) : ∀ (m : Nat) (pre r : List UInt8) (fs : List Fd) (W : World) (dp : Int), dp = 9 - (m : Int) → m ≤ 9 → DOK w0 g s r fs W → pre.length + 2000 * m ≤ 20000 →
    Calls Tryd.prog 32 #[.pointer (some ⟨g, 0, none⟩), .string ⟨pre.toArray⟩, .int .i64 dp] W fun e w' => e = .returned (.tuple #[]) ∧ St w0 g s 1 (Js.resS fs (Js.obj m pre r)) w' := by
  intro m
  induction m with
  | zero =>
    intro pre r fs W dp hdp _ h _
    obtain rfl : dp = 9 := by simpa using hdp
    exact object_0 h hs
  | succ m ih =>
    intro pre r fs W dp hdp hm h hp
    exact object_s m h hs (by omega) (by omega) (by omega) (fun pre' r' fs' W' h' hp' => ih pre' r' fs' W' (dp + 1) (by omega) (by omega) h' (by omega))

end Go.Proofs.YtfdbjgdafolbmaaDoor

/-
  Decimal of package ascii and of its reference: the decimal numeral. The walks of AsciiNumbers and AsciiReturns.
-/
import Derived.Test.YtloilffkggkgdaaDoorLaidAsc
import Derived.Deep.RegionHeld3
import Derived.Deep.RegionWith
import Derived.Laws.BytesArg
import Derived.Lib.ItoaLen
namespace Go.Proofs.YtloilffkggkgdaaDoor
open Go.RowKit Go.Sort

theorem decimal_any (n : Int) (w : World) (h0 : -9223372036854775808 ≤ n) (h1 : n ≤ 9223372036854775807) (hp : Pow w) :
    Calls Tryd.prog 23 #[.int .i64 n] w fun e w' => e = .returned (.string ⟨(Lib.itoa n).toArray⟩) ∧ Below w.heap.size w w' := by
  have hc := Lib.hid (Tryd.strconv_Itoa n h0 h1 w hp)
  go_enter Tryd.func23, Tryd.ntmps23
  go_wp2_with (go_at_call 41; refine hc.out.mono ?_; rintro e w1 ⟨rfl, k, os, rfl⟩)
  go_ret
  exact ⟨rfl, Lib.below_grow _ _ (Nat.le_refl _) _ _⟩

/-- One byte as a string, in whatever world. -/
theorem conv1 (W : World) (b : Nat) (c : Int) (h : W.cell? ⟨b, 0, none⟩ = some (.int .u8 c)) :
    (convert 22 9 (.slice (some ⟨b, 0, none⟩) 1 1)).run Tryd.prog W = .ok (.string ⟨#[UInt8.ofNat c.toNat]⟩) W :=
  run_convert_bytes_arg W 22 5 Tryd.underlying22 Tryd.underlying5 b 0 1 1 [c] rfl (fun i hi => by obtain rfl : i = 0 := (by omega); simpa using h) 9 Tryd.underlying9
theorem conv1_new (w : World) (c : Int) :
    (convert 22 9 (.slice (some ⟨w.heap.size, 0, none⟩) 1 1)).run Tryd.prog (w.alloc (.cells #[.int .u8 c] 5)) = .ok (.string ⟨#[UInt8.ofNat c.toNat]⟩) (w.alloc (.cells #[.int .u8 c] 5)) :=
  conv1 _ _ c (by simp [go_sem])

theorem conv1_drew (w : World) (c : Int) :
    (convert 22 9 (.slice (some ⟨w.heap.size, 0, none⟩) 1 1)).run Tryd.prog (w.alloc (.cells #[.int .u8 c] 5)).drew = .ok (.string ⟨#[UInt8.ofNat c.toNat]⟩) (w.alloc (.cells #[.int .u8 c] 5)).drew :=
  conv1 _ _ c (by simp [go_sem])

theorem conv1_below {w w1 : World} {c : Int} (hb : Below (w.alloc (.cells #[.int .u8 c] 5)).drew.heap.size (w.alloc (.cells #[.int .u8 c] 5)).drew w1) :
    (convert 22 9 (.slice (some ⟨w.heap.size, 0, none⟩) 1 1)).run Tryd.prog w1 = .ok (.string ⟨#[UInt8.ofNat c.toNat]⟩) w1 :=
  conv1 _ _ c ((hb.cell (p := ⟨w.heap.size, 0, none⟩) (by simp)).trans (by simp [go_sem]))

theorem itoa_small (n : Int) (h0 : 0 ≤ n) (h1 : n < 10) : Lib.itoa n = [UInt8.ofNat (48 + n).toNat] := by
  unfold Lib.itoa
  rw [if_neg (by omega), Lib.decDigits_one (by omega)]
  rw [show (48 + n).toNat = 48 + n.toNat by omega]
theorem itoa_big (n : Int) (h : 10 ≤ n) : Lib.itoa n = Lib.itoa (n / 10) ++ [UInt8.ofNat (48 + n % 10).toNat] := by
  unfold Lib.itoa
  rw [if_neg (by omega), if_neg (by omega)]
  rw [Lib.decDigits, dif_neg (by omega)]
  rw [show (n / 10).toNat = n.toNat / 10 by omega, show (48 + n % 10).toNat = 48 + n.toNat % 10 by omega]
theorem itoa_negative (n : Int) (h : n < 0) : Lib.itoa n = 45 :: Lib.itoa (-n) := by
  unfold Lib.itoa
  rw [if_pos h, if_neg (by omega), show n.natAbs = (-n).toNat by omega]

theorem rdec_small (n : Int) (w : World) (h0 : 0 ≤ n) (h1 : n < 10) :
    Calls Tryd.prog 24 #[.int .i64 n] w fun e w' => e = .returned (.string ⟨(Lib.itoa n).toArray⟩) ∧ Below w.heap.size w w' := by
  have e0 : (n == -9223372036854775808) = false := by rw [beq_eq_false_iff_ne]; omega
  have e1 : decide (n < 0) = false := by simpa using h0
  have hf := Lib.hid (itoa_small n h0 h1)
  have kc := conv1_new
  go_enter Tryd.func24, Tryd.ntmps24
  go_wp2_with fail
  go_ret
  exact ⟨ret_val (by rw [hf.out]; rfl), (Below.refl _ _).alloc (Nat.le_refl _) _⟩

theorem below_a {w w1 : World} (hb : Below w.drew.heap.size w.drew w1) (o : Obj) : Below w.heap.size w (w1.alloc o) :=
  ((Below.refl w.heap.size w).drew.trans hb).alloc hb.size o
theorem below_b {w w1 : World} {o : Obj} (hb : Below (w.alloc o).drew.heap.size (w.alloc o).drew w1) : Below w.heap.size w w1 :=
  (((Below.refl w.heap.size w).alloc (Nat.le_refl _) o).drew).trans (hb.mono (by simp))

set_option maxRecDepth 100000 in
theorem rdec_nonneg (k : Nat) : ∀ (n : Int) (w : World), 0 ≤ n → n ≤ 9223372036854775807 → n < 10 ^ k →
    Calls Tryd.prog 24 #[.int .i64 n] w fun e w' => e = .returned (.string ⟨(Lib.itoa n).toArray⟩) ∧ Below w.heap.size w w' := by
  induction k with
  | zero => intro n w h0 _ h2; simp at h2; exact rdec_small n w h0 (by omega)
  | succ k ih =>
    intro n w h0 h1 h2
    by_cases hs : n < 10
    · exact rdec_small n w h0 hs
    · have h3 : n / 10 < 10 ^ k := by rw [Int.pow_succ] at h2; omega
      have IH := Lib.hid fun W => ih (n / 10) W (by omega) (by omega) h3
      have hl := Lib.itoa_length_le (n / 10) (by omega) (by omega)
      have e0 : (n == -9223372036854775808) = false := by rw [beq_eq_false_iff_ne]; omega
      have e1 : decide (n < 0) = false := by simpa using h0
      have hf := Lib.hid (itoa_big n (by omega))
      have kc := conv1_new
      have hs' : 10 ≤ n := by omega
      have q1 : n.tdiv 10 = n / 10 := Int.tdiv_eq_ediv_of_nonneg h0
      have q2 : n.tmod 10 = n % 10 := Int.tmod_eq_emod_of_nonneg h0
      have q3 : IntKind.i64.wrap (n / 10) = n / 10 := IntWalk.i64_in _ ⟨by omega, by omega⟩
      have q4 : IntKind.i64.wrap (48 + n % 10) = 48 + n % 10 := IntWalk.i64_in _ ⟨by omega, by omega⟩
      have q5 : IntKind.u8.wrap (48 + n % 10) = 48 + n % 10 := IntWalk.u8_in _ ⟨by omega, by omega⟩
      have kd := conv1_drew
      clear ih h2 h3 hs
      go_enter Tryd.func24, Tryd.ntmps24
      go_wp2_with fail
      go_region_with (first | (go_at_call 24; refine (IH.out _).mono ?_; rintro e w1 ⟨rfl, hb⟩; (try (have kc2 := conv1_below hb))))
      all_goals go_wp2_with fail
      all_goals go_ret
      all_goals refine ⟨ret_val (by rw [hf.out, ← ba_app]; rfl), ?_⟩
      all_goals first | exact below_a hb _ | exact below_b hb

set_option maxRecDepth 100000 in
theorem rdec_any (n : Int) (w : World) (h0 : -9223372036854775808 ≤ n) (h1 : n ≤ 9223372036854775807) :
    Calls Tryd.prog 24 #[.int .i64 n] w fun e w' => e = .returned (.string ⟨(Lib.itoa n).toArray⟩) ∧ Below w.heap.size w w' := by
  by_cases a : 0 ≤ n
  · exact rdec_nonneg 19 n w a h1 (by omega)
  · by_cases b : n = -9223372036854775808
    · subst b
      have hf : Hid (Lib.itoa (-9223372036854775808) = [45, 57, 50, 50, 51, 51, 55, 50, 48, 51, 54, 56, 53, 52, 55, 55, 53, 56, 48, 56]) := by
        show Lib.itoa (-9223372036854775808) = _
        decide +kernel
      clear h0 h1 a
      go_enter Tryd.func24, Tryd.ntmps24
      go_wp2_with fail
      go_ret
      exact ⟨ret_val (by rw [hf.out]; rfl), Below.refl _ _⟩
    · have e0 : (n == -9223372036854775808) = false := by rw [beq_eq_false_iff_ne]; exact b
      have IH := Lib.hid fun W => rdec_nonneg 19 (-n) W (by omega) (by omega) (by omega)
      have hl := Lib.itoa_length_le (-n) (by omega) (by omega)
      have hf := Lib.hid (itoa_negative n (by omega))
      have a' : n < 0 := by omega
      have e1 : decide (n < 0) = true := by simpa using a'
      have h0' : -9223372036854775807 ≤ n := by omega
      clear b a h0
      go_enter Tryd.func24, Tryd.ntmps24
      go_wp2_with (go_at_call 24; refine (IH.out _).mono ?_; rintro e w1 ⟨rfl, hb⟩)
      go_ret
      exact ⟨ret_val (by rw [hf.out, show (45 :: Lib.itoa (-n)) = [45] ++ Lib.itoa (-n) from rfl, ← ba_app]; rfl), hb⟩


/-- What the laws on numbers need of the world. -/
def KP (w : World) : Prop := Kinds w ∧ Pow w
theorem KP.below {w w' : World} (h : KP w) (hb : Below w.heap.size w w') : KP w' := ⟨h.1.below hb, h.2.below hb⟩
theorem below_seq {a b c : World} (h : Below a.heap.size a b) (k : Below b.heap.size b c) : Below a.heap.size a c := h.trans (k.mono h.size)

theorem i64_bounds {x : Int} (wx : (Lit.int .i64 x).wf = true) : -9223372036854775808 ≤ x ∧ x ≤ 9223372036854775807 := by
  have h' := wx
  unfold Lit.wf at h'
  rw [Bool.and_eq_true, decide_eq_true_iff, decide_eq_true_iff] at h'
  exact h'
theorem numbers_any (s : ByteArray) (hs : s.size ≤ 140737488351232) (n : Int) (wn : (Lit.int .i64 n).wf = true) (w : World) (hk : KP w) :
    Calls Tryd.prog 6 #[.string s, .int .i64 n] w fun e w' => e = .returned (.bool true) ∧ Below w.heap.size w w' := by
  obtain ⟨l, rfl⟩ : ∃ l : List UInt8, s = ⟨l.toArray⟩ := ⟨s.data.toList, by simp⟩
  rw [ba_size] at hs
  have hn := i64_bounds wn
  have HA := Lib.hid (awake_any w hk.1)
  have HK := Lib.hid hk
  have HR := Lib.hid fun w => rnumber_any l w (by omega)
  have HN := Lib.hid fun w h => number_any l w h
  have HD := Lib.hid fun w h => decimal_any n w hn.1 hn.2 h
  have HE := Lib.hid fun w => rdec_any n w hn.1 hn.2
  clear hk wn
  go_enter Tryd.func6, Tryd.ntmps6
  go_wp2_with (go_at_call 9; refine HA.out.mono ?_; rintro e w1 ⟨rfl, hb1⟩)
  have HK1 := Lib.hid (HK.out.below hb1)
  refine (HN.out w1 HK1.out.1).mono ?_
  rintro e w2 ⟨rfl, hb2⟩
  have HK2 := Lib.hid (HK1.out.below hb2)
  go_wp2_with (go_at_call 22; refine (HR.out _).mono ?_; rintro e w' ⟨rfl, rfl⟩)
  refine (HD.out w2 HK2.out.2).mono ?_
  rintro e w3 ⟨rfl, hb3⟩
  go_wp2_with (go_at_call 24; refine (HE.out _).mono ?_; rintro e w4 ⟨rfl, hb4⟩)
  go_ret
  exact ⟨rfl, below_seq (below_seq (below_seq hb1 hb2) hb3) hb4⟩

theorem zeros_str (k : Nat) (hk : k ≤ 9) (l : List UInt8) : (ByteArray.mk #[48, 48, 48, 48, 48, 48, 48, 48, 48]).extract 0 k ++ ByteArray.mk l.toArray = ⟨(List.replicate k 48 ++ l).toArray⟩ := by
  rw [← ba_app]
  congr 1
  rcases k with _ | _ | _ | _ | _ | _ | _ | _ | _ | _ | k
  all_goals first | rfl | decide | omega

set_option maxRecDepth 100000 in
set_option maxHeartbeats 1000000 in
theorem returns_any (n : Int) (wn : (Lit.int .i64 n).wf = true) (x : Int) (wx : (Lit.int .u8 x).wf = true) (w : World) (hk : KP w) :
    Calls Tryd.prog 7 #[.int .i64 n, .int .u8 x] w fun e w' => e = .returned (.bool true) ∧ Below w.heap.size w w' := by
  have hn := i64_bounds wn
  obtain ⟨z, hz, rfl⟩ := u8_nat wx
  have HA := Lib.hid (awake_any w hk.1)
  have HK := Lib.hid hk
  have HN := Lib.hid fun w h => number_any (Lib.itoa n) w h
  have HD := Lib.hid fun w h => decimal_any n w hn.1 hn.2 h
  have hm := Asc.num_itoa n
  have hl := Lib.itoa_length_le n hn.1 hn.2
  clear hk wn wx
  by_cases hsm : -1000000000000000000 < n ∧ n < 1000000000000000000
  · have hB : Asc.numB (Lib.itoa n) = true := by rw [hm.1]; simpa using hsm
    have hN : Asc.numN (Lib.itoa n) = n := hm.2 hB
    obtain ⟨s1, s2⟩ := hsm
    rw [hB, hN] at HN
    clear hB hN hm
    by_cases hr : 0 ≤ n ∧ n ≤ 999999999
    · obtain ⟨r1, r2⟩ := hr
      have HZ := Lib.hid (Asc.num_zeros n (z % 10) r1 r2 (by omega))
      have HZN := Lib.hid fun w h => number_any (List.replicate (z % 10) 48 ++ Lib.itoa n) w h
      rw [HZ.out.1, HZ.out.2] at HZN
      go_enter Tryd.func7, Tryd.ntmps7
      go_wp2_with (go_at_call 9; refine HA.out.mono ?_; rintro e w1 ⟨rfl, hb1⟩)
      have HK1 := Lib.hid (HK.out.below hb1)
      refine (HD.out w1 HK1.out.2).mono ?_
      rintro e w2 ⟨rfl, hb2⟩
      have HK2 := Lib.hid (HK1.out.below hb2)
      go_wp2_with fail
      refine (HN.out w2 HK2.out.1).mono ?_
      rintro e w3 ⟨rfl, hb3⟩
      have HK3 := Lib.hid (HK2.out.below hb3)
      go_wp2_with fail
      rw [zeros_str (z % 10) (by omega)]
      refine (HZN.out w3 HK3.out.1).mono ?_
      rintro e w4 ⟨rfl, hb4⟩
      go_wp2_with fail
      go_ret
      exact ⟨rfl, below_seq (below_seq (below_seq hb1 hb2) hb3) hb4⟩
    · go_enter Tryd.func7, Tryd.ntmps7
      go_wp2_with (go_at_call 9; refine HA.out.mono ?_; rintro e w1 ⟨rfl, hb1⟩)
      have HK1 := Lib.hid (HK.out.below hb1)
      refine (HD.out w1 HK1.out.2).mono ?_
      rintro e w2 ⟨rfl, hb2⟩
      have HK2 := Lib.hid (HK1.out.below hb2)
      go_wp2_with fail
      refine (HN.out w2 HK2.out.1).mono ?_
      rintro e w3 ⟨rfl, hb3⟩
      by_cases h0 : n < 0
      · go_wp2_with fail
        go_ret
        exact ⟨rfl, below_seq (below_seq hb1 hb2) hb3⟩
      · have h1 : 999999999 < n := by omega
        clear hr
        go_wp2_with fail
        go_ret
        exact ⟨rfl, below_seq (below_seq hb1 hb2) hb3⟩
  · have hB : Asc.numB (Lib.itoa n) = false := by rw [hm.1]; simpa using hsm
    rw [hB] at HN
    clear hB hm
    have hr : n < 0 ∨ 999999999 < n := by omega
    go_enter Tryd.func7, Tryd.ntmps7
    go_wp2_with (go_at_call 9; refine HA.out.mono ?_; rintro e w1 ⟨rfl, hb1⟩)
    have HK1 := Lib.hid (HK.out.below hb1)
    refine (HD.out w1 HK1.out.2).mono ?_
    rintro e w2 ⟨rfl, hb2⟩
    have HK2 := Lib.hid (HK1.out.below hb2)
    go_wp2_with fail
    refine (HN.out w2 HK2.out.1).mono ?_
    rintro e w3 ⟨rfl, hb3⟩
    by_cases h0 : n < 0
    · have h1 : n ≤ -1000000000000000000 := by omega
      clear hsm hr
      go_wp2_with fail
      go_ret
      exact ⟨rfl, below_seq (below_seq hb1 hb2) hb3⟩
    · have h1 : 1000000000000000000 ≤ n := by omega
      clear hsm hr
      go_wp2_with fail
      go_ret
      exact ⟨rfl, below_seq (below_seq hb1 hb2) hb3⟩

end Go.Proofs.YtloilffkggkgdaaDoor

/-
  The reference's Decimal: the decimal numeral.
-/
import Derived.Test.YtplbaffcgkjmjaaDoorCalJ
import Derived.Deep.RegionHeld3
import Derived.Deep.RegionWith
import Derived.Laws.BytesArg
namespace Go.Proofs.YtplbaffcgkjmjaaDoor
open Go.RowKit Go.Sort

/-- One byte as a string, in whatever world. -/
theorem conv1 (W : World) (b : Nat) (c : Int) (h : W.cell? ⟨b, 0, none⟩ = some (.int .u8 c)) :
    (convert 50 9 (.slice (some ⟨b, 0, none⟩) 1 1)).run Tryd.prog W = .ok (.string ⟨#[UInt8.ofNat c.toNat]⟩) W :=
  run_convert_bytes_arg W 50 5 Tryd.underlying50 Tryd.underlying5 b 0 1 1 [c] rfl (fun i hi => by obtain rfl : i = 0 := (by omega); simpa using h) 9 Tryd.underlying9
theorem conv1_new (w : World) (c : Int) :
    (convert 50 9 (.slice (some ⟨w.heap.size, 0, none⟩) 1 1)).run Tryd.prog (w.alloc (.cells #[.int .u8 c] 5)) = .ok (.string ⟨#[UInt8.ofNat c.toNat]⟩) (w.alloc (.cells #[.int .u8 c] 5)) :=
  conv1 _ _ c (by simp [go_sem])

theorem conv1_drew (w : World) (c : Int) :
    (convert 50 9 (.slice (some ⟨w.heap.size, 0, none⟩) 1 1)).run Tryd.prog (w.alloc (.cells #[.int .u8 c] 5)).drew = .ok (.string ⟨#[UInt8.ofNat c.toNat]⟩) (w.alloc (.cells #[.int .u8 c] 5)).drew :=
  conv1 _ _ c (by simp [go_sem])

theorem conv1_below {w w1 : World} {c : Int} (hb : Below (w.alloc (.cells #[.int .u8 c] 5)).drew.heap.size (w.alloc (.cells #[.int .u8 c] 5)).drew w1) :
    (convert 50 9 (.slice (some ⟨w.heap.size, 0, none⟩) 1 1)).run Tryd.prog w1 = .ok (.string ⟨#[UInt8.ofNat c.toNat]⟩) w1 :=
  conv1 _ _ c ((hb.cell (p := ⟨w.heap.size, 0, none⟩) (by simp)).trans (by simp [go_sem]))

theorem itoa_small (n : Int) (h0 : 0 ≤ n) (h1 : n < 10) : Lib.itoa n = [UInt8.ofNat (48 + n).toNat] := by
  unfold Lib.itoa
  rw [if_neg (by omega), Lib.decDigits_one (by omega)]
  rw [show (48 + n).toNat = 48 + n.toNat by omega]
theorem itoa_big (n : Int) (h : 10 ≤ n) : Lib.itoa n = Lib.itoa (n / 10) ++ [UInt8.ofNat (48 + n % 10).toNat] := by
  unfold Lib.itoa
  rw [if_neg (by omega), if_neg (by omega)]
  rw [Lib.decDigits, dif_neg (by omega)]
  rw [show (n / 10).toNat = n.toNat / 10 by omega, show (48 + n % 10).toNat = 48 + n.toNat % 10 by omega]
theorem itoa_negative (n : Int) (h : n < 0) : Lib.itoa n = 45 :: Lib.itoa (-n) := by
  unfold Lib.itoa
  rw [if_pos h, if_neg (by omega), show n.natAbs = (-n).toNat by omega]

theorem rdec_small (n : Int) (w : World) (h0 : 0 ≤ n) (h1 : n < 10) :
    Calls Tryd.prog 33 #[.int .i64 n] w fun e w' => e = .returned (.string ⟨(Lib.itoa n).toArray⟩) ∧ Below w.heap.size w w' := by
  have e0 : (n == -9223372036854775808) = false := by rw [beq_eq_false_iff_ne]; omega
  have e1 : decide (n < 0) = false := by simpa using h0
  have hf := Lib.hid (itoa_small n h0 h1)
  have kc := conv1_new
  go_enter Tryd.func33, Tryd.ntmps33
  go_wp2_with fail
  go_ret
  exact ⟨ret_val (by rw [hf.out]; rfl), (Below.refl _ _).alloc (Nat.le_refl _) _⟩

theorem below_a {w w1 : World} (hb : Below w.drew.heap.size w.drew w1) (o : Obj) : Below w.heap.size w (w1.alloc o) :=
  ((Below.refl w.heap.size w).drew.trans hb).alloc hb.size o
theorem below_b {w w1 : World} {o : Obj} (hb : Below (w.alloc o).drew.heap.size (w.alloc o).drew w1) : Below w.heap.size w w1 :=
  (((Below.refl w.heap.size w).alloc (Nat.le_refl _) o).drew).trans (hb.mono (by simp))

theorem rdec_nonneg (k : Nat) : ∀ (n : Int) (w : World), 0 ≤ n → n ≤ 9223372036854775807 → n < 10 ^ k →
    Calls Tryd.prog 33 #[.int .i64 n] w fun e w' => e = .returned (.string ⟨(Lib.itoa n).toArray⟩) ∧ Below w.heap.size w w' := by
  induction k with
  | zero => intro n w h0 _ h2; simp at h2; exact rdec_small n w h0 (by omega)
  | succ k ih =>
    intro n w h0 h1 h2
    by_cases hs : n < 10
    · exact rdec_small n w h0 hs
    · have h3 : n / 10 < 10 ^ k := by rw [Int.pow_succ] at h2; omega
      have IH := Lib.hid fun W => ih (n / 10) W (by omega) (by omega) h3
      have hl := Lib.itoa_length_le (n / 10) (by omega) (by omega)
      have e0 : (n == -9223372036854775808) = false := by rw [beq_eq_false_iff_ne]; omega
      have e1 : decide (n < 0) = false := by simpa using h0
      have hf := Lib.hid (itoa_big n (by omega))
      have kc := conv1_new
      have hs' : 10 ≤ n := by omega
      have q1 : n.tdiv 10 = n / 10 := Int.tdiv_eq_ediv_of_nonneg h0
      have q2 : n.tmod 10 = n % 10 := Int.tmod_eq_emod_of_nonneg h0
      have q3 : IntKind.i64.wrap (n / 10) = n / 10 := IntWalk.i64_in _ ⟨by omega, by omega⟩
      have q4 : IntKind.i64.wrap (48 + n % 10) = 48 + n % 10 := IntWalk.i64_in _ ⟨by omega, by omega⟩
      have q5 : IntKind.u8.wrap (48 + n % 10) = 48 + n % 10 := IntWalk.u8_in _ ⟨by omega, by omega⟩
      have kd := conv1_drew
      clear ih h2 h3 hs
      go_enter Tryd.func33, Tryd.ntmps33
      go_wp2_with fail
      go_region_with (first | (go_at_call 33; refine (IH.out _).mono ?_; rintro e w1 ⟨rfl, hb⟩; (try (have kc2 := conv1_below hb))))
      all_goals go_wp2_with fail
      all_goals go_ret
      all_goals refine ⟨ret_val (by rw [hf.out, ← ba_app]; rfl), ?_⟩
      all_goals first | exact below_a hb _ | exact below_b hb

theorem rdec_any (n : Int) (w : World) (h0 : -9223372036854775808 ≤ n) (h1 : n ≤ 9223372036854775807) :
    Calls Tryd.prog 33 #[.int .i64 n] w fun e w' => e = .returned (.string ⟨(Lib.itoa n).toArray⟩) ∧ Below w.heap.size w w' := by
  by_cases a : 0 ≤ n
  · exact rdec_nonneg 19 n w a h1 (by omega)
  · by_cases b : n = -9223372036854775808
    · subst b
      have hf : Hid (Lib.itoa (-9223372036854775808) = [45, 57, 50, 50, 51, 51, 55, 50, 48, 51, 54, 56, 53, 52, 55, 55, 53, 56, 48, 56]) := by
        show Lib.itoa (-9223372036854775808) = _
        decide +kernel
      clear h0 h1 a
      go_enter Tryd.func33, Tryd.ntmps33
      go_wp2_with fail
      go_ret
      exact ⟨ret_val (by rw [hf.out]; rfl), Below.refl _ _⟩
    · have e0 : (n == -9223372036854775808) = false := by rw [beq_eq_false_iff_ne]; exact b
      have IH := Lib.hid fun W => rdec_nonneg 19 (-n) W (by omega) (by omega) (by omega)
      have hl := Lib.itoa_length_le (-n) (by omega) (by omega)
      have hf := Lib.hid (itoa_negative n (by omega))
      have a' : n < 0 := by omega
      have e1 : decide (n < 0) = true := by simpa using a'
      have h0' : -9223372036854775807 ≤ n := by omega
      clear b a h0
      go_enter Tryd.func33, Tryd.ntmps33
      go_wp2_with (go_at_call 33; refine (IH.out _).mono ?_; rintro e w1 ⟨rfl, hb⟩)
      go_ret
      exact ⟨ret_val (by rw [hf.out, show (45 :: Lib.itoa (-n)) = [45] ++ Lib.itoa (-n) from rfl, ← ba_app]; rfl), hb⟩

theorem rpadded_any (n : Int) (k : Nat) (w : World) (h0 : -9223372036854775808 ≤ n) (h1 : n ≤ 9223372036854775807) (hk : k ≤ 25) :
    Calls Tryd.prog 29 #[.int .i64 n, .int .i64 k] w fun e w' => e = .returned (.string ⟨(padL n k).toArray⟩) ∧ Below w.heap.size w w' := by
  have hc := Lib.hid (rdec_any n w h0 h1)
  have hl := Lib.itoa_length_le n h0 h1
  clear h0 h1
  go_enter Tryd.func29, Tryd.ntmps29
  go_wp2_with (go_at_call 33; refine hc.out.mono ?_; rintro e w1 ⟨rfl, hb⟩)
  go_loop [5] (fun t => ∃ j : Nat, j ≤ k - (Lib.itoa n).length ∧ t = .string ⟨(List.replicate j 48 ++ Lib.itoa n).toArray⟩) (fun t => 100 - strLen t)
  case atStart => exact ⟨0, by omega, by simp⟩
  case round =>
    obtain ⟨j, hj, rfl⟩ := hrel
    go_wp2
    · have hlt : (j : Int) + ((Lib.itoa n).length : Int) < (k : Int) := by assumption
      refine ⟨⟨j + 1, by omega, ?_⟩, ?_⟩
      · rw [ba_app, List.replicate_succ]; rfl
      · rw [ba_app]; simp [strLen, ba_size]; omega
    · have hge : (k : Int) ≤ (j : Int) + ((Lib.itoa n).length : Int) := by assumption
      go_ret
      refine ⟨ret_str ?_, hb⟩
      unfold padL
      rw [show j = k - (Lib.itoa n).length by omega]
theorem rpadded_i (n k : Int) (w : World) (h0 : -100000 ≤ n) (h1 : n ≤ 100000) (k0 : 0 ≤ k) (k1 : k ≤ 4) :
    Calls Tryd.prog 29 #[.int .i64 n, .int .i64 k] w fun e w' => e = .returned (.string ⟨(padL n k.toNat).toArray⟩) ∧ Below w.heap.size w w' := by
  obtain ⟨j, rfl⟩ := Int.eq_ofNat_of_zero_le k0
  exact rpadded_any n j w (by omega) (by omega) (by omega)

end Go.Proofs.YtplbaffcgkjmjaaDoor

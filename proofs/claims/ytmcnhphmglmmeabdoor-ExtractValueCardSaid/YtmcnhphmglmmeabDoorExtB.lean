/-
  The decimal numeral: strconv.Itoa, and Decimal of the reference.
-/
import Derived.Test.YtmcnhphmglmmeabDoorExtA
import Derived.Lib.AppendIntMem
import Derived.Lib.ItoaLen
import Derived.Lib.LaidTab
namespace Go.Proofs.YtmcnhphmglmmeabDoor
open Go.RowKit

/-- The table of the powers of ten is laid. -/
def Pow (w : World) : Prop := Lib.TabIs Tryd.prog w "internal/strconv.uint64pow10" .u64 Lib.pow10Tab
theorem Pow.below {w w' : World} (h : Pow w) (hb : Below w.heap.size w w') : Pow w' := by
  have hg : Tryd.prog.globalNamed "internal/strconv.uint64pow10" = some 0 := by kernel_rfl
  have hc := Lib.TabIs.cell h hg 0 (by decide)
  exact var?_below hb hg (World.block_lt_of_cell? w _ hc) h
theorem itoa_any (n : Nat) (w : World) (hn : n ≤ 1000000000000000000) (hp : Pow w) :
    Calls Tryd.prog 29 #[.int .i64 n] w fun e w' => e = .returned (.string ⟨(Lib.decDigits n).toArray⟩) ∧ Below w.heap.size w w' := by
  refine (Tryd.strconv_Itoa n (by omega) (by omega) w hp).mono ?_
  rintro e w' ⟨rfl, k, os, rfl⟩
  refine ⟨?_, Lib.below_grow _ _ (Nat.le_refl _) _ _⟩
  unfold Lib.itoa
  rw [if_neg (by omega)]
  rfl

theorem decD_low {u : Nat} (h : u / 10 = 0) : Lib.decDigits u = [UInt8.ofNat (48 + u % 10)] := by
  have hu : u < 10 := by omega
  rw [Lib.decDigits, dif_pos hu, Nat.mod_eq_of_lt hu]
theorem decD_high {u : Nat} (h : u / 10 ≠ 0) : Lib.decDigits u = Lib.decDigits (u / 10) ++ [UInt8.ofNat (48 + u % 10)] := by
  have hu : ¬ u < 10 := by omega
  rw [Lib.decDigits, dif_neg hu]
theorem decD_len {u : Nat} (h : u ≤ 1000000000000000000) : (Lib.decDigits u).length ≤ 19 := (Asc.dec_facts (u + 1) u (by omega)).2.2.2.1 19 (by omega) (by omega)

theorem own_new (w : World) {B : Nat} (hB : B ≤ w.heap.size) (y : Value) : (w.alloc (.cells #[y] 5)).ownsRow B 5 1 (.slice (some ⟨w.heap.size, 0, none⟩) 1 1) 1 [y] :=
  ⟨by simp, .inr ⟨w.heap.size, 1, #[y], rfl, hB, heap_alloc_new w _, by decide, by unfold maxLen; decide, rfl, rfl⟩⟩
theorem own_keep {W W' : World} {B E s n : Nat} {v : Value} {xs : List Value} (h : W.ownsRow B E s v n xs) (hb : ∀ k, B ≤ k → k < W.heap.size → W'.heap[k]? = W.heap[k]?) : W'.ownsRow B E s v n xs := by
  obtain ⟨h1, h2⟩ := h
  refine ⟨h1, h2.imp id ?_⟩
  rintro ⟨g, cap, cur, rfl, hB, hg, rest⟩
  refine ⟨g, cap, cur, rfl, hB, ?_, rest⟩
  rw [hb g hB ?_]
  · exact hg
  · rcases Nat.lt_or_ge g W.heap.size with c | c
    · exact c
    · rw [Array.getElem?_eq_none c] at hg; cases hg

theorem decimal_any (n : Nat) (w : World) (hn : n ≤ 1000000000000000000) :
    Calls Tryd.prog 22 #[.int .i64 n] w fun e w' => e = .returned (.string ⟨(Lib.decDigits n).toArray⟩) ∧ Below w.heap.size w w' := by
  have hlen := decD_len hn
  have t0 : decide ((n : Int) < 0) = false := decide_eq_false (by omega)
  go_enter Tryd.func22, Tryd.ntmps22
  go_wp2_with fail
  go_loopw [3, 4] (fun u v wr => ∃ (x : Nat) (out : List UInt8), x ≤ n ∧ u = .int .u64 x ∧ wr.ownsRow w.heap.size 5 1 v out.length (Lib.byteCells out) ∧ Lib.decDigits n = Lib.decDigits x ++ out ∧ Below w.heap.size w wr) (fun u _ _ => (intOf u).toNat)
  case atStart => exact ⟨n, [], Nat.le_refl _, rfl, World.ownsRow_nil _ _ _ _, by simp, Below.refl _ _⟩
  case round =>
    obtain ⟨x, out, hx, rfl, hown, hd, hb⟩ := hrel
    obtain ⟨v, rfl⟩ : ∃ v, v = u4 := ⟨_, rfl⟩
    have HD := Lib.hid hd
    have hol : out.length ≤ 19 := by have := congrArg List.length hd; rw [List.length_append] at this; omega
    have HB := Lib.hid hb
    have hsz := hb.size
    have HS := Lib.hid (bsi_own (own_keep (W' := wr.alloc (.cells #[.int .u8 ((48 + x % 10 : Nat) : Int)] 5)) hown fun k _ hk => (Below.refl _ wr).alloc (Nat.le_refl _) _ |>.block k hk))
    have e1 : ((48 : Int) + (x : Int) % 10) % 256 = ((48 + x % 10 : Nat) : Int) := by omega
    have HN := Lib.hid (own_new wr hsz (.int .u8 ((48 + x % 10 : Nat) : Int)))
    have HC := Lib.hid (show Value.int .u8 ((48 + x % 10 : Nat) : Int) :: Lib.byteCells out = Lib.byteCells (UInt8.ofNat (48 + x % 10) :: out) by
      unfold Lib.byteCells
      rw [List.map_cons, Asc.ofNat_toNat8 (by omega)])
    clear hd hown hb
    by_cases h0 : x / 10 = 0
    · have HE := Lib.hid (decD_low h0)
      obtain ⟨D, hD⟩ : ∃ D, UInt8.ofNat (48 + x % 10) = D := ⟨_, rfl⟩
      rw [hD] at HE HC
      clear hD
      have z0 : ((x : Int) / 10 == 0) = true := by rw [beq_iff_eq]; omega
      go_wp2_with (at_builtin; refine wpList_append_bs rfl _ _ rfl w.heap.size _ 1 _ rfl HN.out v out rfl HS.out (by omega) (by simp; omega) ?_; intro v' w2 hown' hgrow; have hown2 : w2.ownsRow w.heap.size 5 1 v' (D :: out).length (Lib.byteCells (D :: out)) := (by rw [← HC.out, List.length_cons, Nat.add_comm]; exact hown'); have hb2 : Below w.heap.size w w2 := ((HB.out.alloc hsz _).grown hgrow (by simp; omega) (fun k hk => by cases hk; exact hsz)); have hcv := conv_own hown2; have HO := Lib.hid hown2; have HB2 := Lib.hid hb2; clear hown' hgrow hown2 hb2)
      go_ret
      refine ⟨?_, HB2.out⟩
      rw [HD.out, HE.out]
      rfl
    · have HE := Lib.hid (decD_high h0)
      obtain ⟨D, hD⟩ : ∃ D, UInt8.ofNat (48 + x % 10) = D := ⟨_, rfl⟩
      rw [hD] at HE HC
      clear hD
      have z0 : ((x : Int) / 10 == 0) = false := by rw [beq_eq_false_iff_ne]; omega
      go_wp2_with (at_builtin; refine wpList_append_bs rfl _ _ rfl w.heap.size _ 1 _ rfl HN.out v out rfl HS.out (by omega) (by simp; omega) ?_; intro v' w2 hown' hgrow; have hown2 : w2.ownsRow w.heap.size 5 1 v' (D :: out).length (Lib.byteCells (D :: out)) := (by rw [← HC.out, List.length_cons, Nat.add_comm]; exact hown'); have hb2 : Below w.heap.size w w2 := ((HB.out.alloc hsz _).grown hgrow (by simp; omega) (fun k hk => by cases hk; exact hsz)); have hcv := conv_own hown2; have HO := Lib.hid hown2; have HB2 := Lib.hid hb2; clear hown' hgrow hown2 hb2)
      clear hcv
      refine ⟨⟨x / 10, D :: out, by omega, by go_num, HO.out, ?_, HB2.out⟩, by simp [intOf]; omega⟩
      rw [HD.out, HE.out]
      simp

end Go.Proofs.YtmcnhphmglmmeabDoor

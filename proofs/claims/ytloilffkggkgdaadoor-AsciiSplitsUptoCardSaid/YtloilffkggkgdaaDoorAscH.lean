/-
  Number of package ascii: the number that a string stands for.
-/
import Derived.Test.YtloilffkggkgdaaDoorAscG
import Derived.Lib.ConvBytes
namespace Go.Proofs.YtloilffkggkgdaaDoor
open Go.RowKit

/-- '[]byte(s)': a new row that holds the bytes. -/
structure NewBytes (w : World) (l : List UInt8) (cap : Nat) (w' : World) : Prop where
  run : (convert 9 22 (.string ⟨l.toArray⟩)).run Tryd.prog w = .ok (.slice (some ⟨w.heap.size, 0, none⟩) l.length cap) w'
  below : Below w.heap.size w w'
  size : w'.heap.size = w.heap.size + 1
  cells : BA w' w.heap.size 0 l
  room : l.length ≤ cap
  free : ∀ i, i < cap → w'.frozen? ⟨w.heap.size, i, none⟩ = false
def Asc.sgn (neg : Bool) (n : Nat) : Int := if neg then -(n : Int) else (n : Int)
theorem conv_bytes (w : World) (l : List UInt8) : ∃ cap w', NewBytes w l cap w' := by
  have hr := Lib.run_convert_string_bytes (P := Tryd.prog) w 9 22 5 ⟨l.toArray⟩ Tryd.underlying9 Tryd.underlying22 Tryd.underlying5
  have hn := Lib.bytesWorld_at_new w 5 ⟨l.toArray⟩
  have hsz : (Lib.bytesWorld w 5 ⟨l.toArray⟩).heap.size = w.heap.size + 1 := by
    simp [Lib.bytesWorld, World.freeze, World.alloc, World.drew, -World.alloc_eq, -World.drew_eq]
  have hl : (ByteArray.mk l.toArray).size = l.length := by simp [ByteArray.size]
  have hcl : (Lib.bytesCells w 5 ⟨l.toArray⟩).size = grownCap w l.length 0 5 := by
    have := grownCap_ge w l.length 0 5
    simp [Lib.bytesCells, hl]; omega
  refine ⟨grownCap w l.length 0 5, Lib.bytesWorld w 5 ⟨l.toArray⟩, ⟨by rw [hr, hl], ⟨rfl, rfl, rfl, by omega, fun k hk => Lib.bytesWorld_at_old _ _ _ _ hk⟩, hsz, fun i hi => ?_, grownCap_ge _ _ _ _, fun i hi => ?_⟩⟩
  · rw [Lib.cell_of_heap hn]
    rw [Asc.at_of hi]
    simp [Lib.bytesCells, Array.getElem?_append, hi]
  · unfold World.frozen?
    rw [hn, hcl]
    simp
    omega
theorem BA.at {w : World} {blk : Nat} {bs : List UInt8} (h : BA w blk 0 bs) (i : Nat) (hi : i < bs.length) : w.cell? ⟨blk, i, none⟩ = some (.int .u8 (Asc.at_ bs i : Nat)) := by
  have := h i hi
  rwa [Nat.zero_add] at this

set_option maxRecDepth 100000 in
set_option maxHeartbeats 1000000 in
theorem number_core (l d : List UInt8) (neg : Bool) (w : World) (hk : Kinds w) (hd : Lib.trimPrefix l [45] = d) (hn : decide (d.length < l.length) = neg) :
    Calls Tryd.prog 21 #[.string ⟨l.toArray⟩] w fun e w' => e = .returned (.tuple #[.int .i64 (Asc.sgn neg (Asc.digN d 18)), .bool (Asc.digB d 18)]) ∧ Below w.heap.size w w' := by
  have HT : Hid (∀ w, Calls Tryd.prog 39 #[.string ⟨l.toArray⟩, .string ⟨#[45]⟩] w fun e w' => e = .returned (.string ⟨d.toArray⟩) ∧ w = w') := by
    show ∀ w, _
    intro w
    rw [← hd]
    exact (Tryd.strings_TrimPrefix ⟨l.toArray⟩ ⟨#[45]⟩ w).mono fun e w' ⟨h1, h2⟩ => ⟨h1, h2.symm⟩
  clear hd
  by_cases h1 : 1 ≤ d.length
  · have t1 : decide ((d.length : Int) < 1) = false := by simp; omega
    by_cases h2 : d.length ≤ 18
    · have t2 : decide (18 < (d.length : Int)) = false := by simp; omega
      have HF := Lib.hid (Asc.dig_yes h1 h2)
      have HN := Lib.hid (Asc.dig_no (l := d) (most := 18))
      obtain ⟨cap, w2, nb⟩ := conv_bytes w d
      have hr := nb.run
      have NB := Lib.hid nb
      have HK := Lib.hid (hk.below nb.below)
      clear nb hk
      go_enter Tryd.func21, Tryd.ntmps21
      go_wp2_with (go_at_call 39; refine (HT.out _).mono ?_; rintro e w' ⟨rfl, rfl⟩)
      go_loop [5, 21] (fun t i => ∃ k : Nat, k ≤ d.length ∧ i = .int .i64 k ∧ t = .int .i64 (Asc.val (d.take k) : Nat) ∧ Asc.allD (d.take k) = true) (fun _ i => d.length - (intOf i).toNat)
      case atStart => exact ⟨0, by omega, rfl, rfl, rfl⟩
      case round =>
        obtain ⟨k, hk, rfl, rfl, ha⟩ := hrel
        by_cases hlt : k < d.length
        · have hcell := NB.out.cells.at k hlt
          rw [Asc.at_of hlt] at hcell
          have hc2 : d[k].toNat < 256 := d[k].toNat_lt
          generalize hc : d[k].toNat = c at *
          have hv := val_small ha (by omega)
          have HA := Lib.hid ha
          have HC := Lib.hid hc
          clear ha hc
          cases hd : Asc.isDigit c
          · have HB := Lib.hid (Asc.allD_bad k hlt (by rw [HC.out]; exact hd))
            go_wp2_with (go_at_call 12; refine (digit_any c w2 hc2 HK.out).mono ?_; rintro e w' ⟨rfl, rfl⟩)
            go_ret2
            have := HN.out (.inr (.inr HB.out))
            exact ⟨ret_nb (by rw [this.1]; cases neg <;> rfl) this.2.symm, NB.out.below⟩
          · have hd2 := (Asc.isDigit_iff c).1 hd
            have HV : Hid (Asc.val (d.take (k + 1)) = Asc.val (d.take k) * 10 + (c - 48)) := by
              show Asc.val _ = _
              rw [Asc.snoc_take d k hlt, Asc.val_snoc, HC.out]
            have HB : Hid (Asc.allD (d.take (k + 1)) = true) := by
              show Asc.allD _ = _
              rw [Asc.snoc_take d k hlt, Asc.allD_snoc, HC.out, HA.out, hd]; rfl
            generalize Asc.val (d.take k) = v at *
            go_wp2_with (go_at_call 12; refine (digit_any c w2 hc2 HK.out).mono ?_; rintro e w' ⟨rfl, rfl⟩)
            go_round
            case rel => exact ⟨k + 1, by omega, by go_num, by rw [HV.out]; congr 1; omega, HB.out⟩
            case measure => simp [intOf]; omega
        · have HA := Lib.hid (show Asc.allD d = true by rw [List.take_of_length_le (by omega)] at ha; exact ha)
          have HV := Lib.hid (show Asc.val (d.take k) = Asc.val d by rw [List.take_of_length_le (by omega)])
          have hv := Asc.val_le18 HA.out h2
          rw [← HV.out] at hv
          clear ha
          generalize Asc.val (d.take k) = v at *
          cases neg
          all_goals
            go_wp2_with fail
            go_ret2
            have := HF.out HA.out
            exact ⟨ret_nb (by rw [this.1, ← HV.out]; rfl) this.2.symm, NB.out.below⟩
    · have t2 : decide (18 < (d.length : Int)) = true := by simp; omega
      have HN := Lib.hid (Asc.dig_no (l := d) (most := 18) (.inr (.inl (by omega))))
      go_enter Tryd.func21, Tryd.ntmps21
      go_wp2_with (go_at_call 39; refine (HT.out _).mono ?_; rintro e w' ⟨rfl, rfl⟩)
      go_ret2
      exact ⟨ret_nb (by rw [HN.out.1]; cases neg <;> rfl) HN.out.2.symm, Below.refl _ _⟩
  · have t1 : decide ((d.length : Int) < 1) = true := by simp; omega
    have HN := Lib.hid (Asc.dig_no (l := d) (most := 18) (.inl (by omega)))
    go_enter Tryd.func21, Tryd.ntmps21
    go_wp2_with (go_at_call 39; refine (HT.out _).mono ?_; rintro e w' ⟨rfl, rfl⟩)
    go_ret2
    exact ⟨ret_nb (by rw [HN.out.1]; cases neg <;> rfl) HN.out.2.symm, Below.refl _ _⟩

theorem number_any (l : List UInt8) (w : World) (hk : Kinds w) :
    Calls Tryd.prog 21 #[.string ⟨l.toArray⟩] w fun e w' => e = .returned (.tuple #[.int .i64 (Asc.numN l), .bool (Asc.numB l)]) ∧ Below w.heap.size w w' := by
  by_cases hh : l.head? = some 45
  · obtain ⟨d, rfl⟩ : ∃ d, l = 45 :: d := by
      cases l with
      | nil => cases hh
      | cons c d => simp at hh; subst hh; exact ⟨d, rfl⟩
    have h := number_core (45 :: d) d true w hk (by simp [Lib.trimPrefix, Lib.hasPrefix]) (by simp)
    rw [(Asc.num_neg d).1, (Asc.num_neg d).2]
    exact h
  · have h := number_core l l false w hk (by
      cases l with
      | nil => rfl
      | cons c d =>
        have : ¬ c = 45 := fun e => hh (by simp [e])
        simp [Lib.trimPrefix, Lib.hasPrefix]
        intro e; exact absurd e.symm (by simpa using this)) (by simp)
    rw [(Asc.num_pos hh).1, (Asc.num_pos hh).2]
    exact h

end Go.Proofs.YtloilffkggkgdaaDoor

/-
  delimited and Delimited of package parse.
-/
import Derived.Test.YtfdbjgdafolbmaaDoorParA
namespace Go.Proofs.YtfdbjgdafolbmaaDoor
open Go.RowKit

theorem hasPrefix_q (l : List UInt8) : Lib.hasPrefix l [34] = decide (l.head? = some 34) := by
  cases l with
  | nil => rfl
  | cons c l =>
    rw [Bool.eq_iff_iff]
    simp [Lib.hasPrefix, List.isPrefixOf]
    exact ⟨fun h => h.symm, fun h => h.symm⟩
theorem prefix_q (l : List UInt8) (b : Bool) (h : decide (l.head? = some 34) = b) (w : World) :
    Calls Tryd.prog 42 #[.string ⟨l.toArray⟩, .string ⟨#[34]⟩] w fun e w' => e = .returned (.bool b) ∧ w = w' := by
  have := Tryd.strings_HasPrefix ⟨l.toArray⟩ ⟨#[34]⟩ w
  rw [← h, ← hasPrefix_q]
  exact this.mono fun e w' ⟨h1, h2⟩ => ⟨h1, h2.symm⟩

theorem dlB_q {l : List UInt8} (sep : UInt8) (h : l.head? = some 34) {R : Option (List UInt8 × List UInt8)} (hR : Asc.dq (l.drop 1) [] = R) :
    Asc.dlB l sep = (R.isSome && (decide (Asc.rOf R = []) || decide ((Asc.rOf R).head? = some sep))) := by
  have e : Asc.dlR l sep = Asc.rOf R := by unfold Asc.dlR; rw [if_pos h, hR]
  unfold Asc.dlB
  rw [if_pos h, hR, e]
theorem delim_plain (l : List UInt8) (sep : UInt8) (w : World) (h : l.head? ≠ some 34) :
    Calls Tryd.prog 31 #[.string ⟨l.toArray⟩, .int .u8 sep.toNat] w fun e w' =>
      e = .returned (.tuple #[.string ⟨(Asc.dlV l sep).toArray⟩, .string ⟨(Asc.dlR l sep).toArray⟩, .bool (Asc.dlB l sep)]) ∧ Below w.heap.size w w' := by
  have HP := Lib.hid (prefix_q l false (by simpa using h) w)
  have F1 := Lib.hid (show Asc.dlV l sep = l.take (Asc.pos l sep) by unfold Asc.dlV; rw [if_neg h])
  have F2 := Lib.hid (show Asc.dlR l sep = l.drop (Asc.pos l sep) by unfold Asc.dlR; rw [if_neg h])
  have F3 := Lib.hid (show Asc.dlB l sep = true by unfold Asc.dlB; rw [if_neg h])
  have hple := Asc.pos_le l sep
  have HI : Hid (∀ w, Calls Tryd.prog 48 #[.string ⟨l.toArray⟩, .int .u8 sep.toNat] w fun e w' => e = .returned (.int .i64 (if Asc.pos l sep < l.length then (Asc.pos l sep : Int) else -1)) ∧ w = w') := by
    show ∀ w, _
    intro w
    have := Tryd.strings_IndexByte ⟨l.toArray⟩ (sep.toNat : Int) w
    rw [u8_of, Asc.indexByte_pos] at this
    exact this.mono fun e w' ⟨h1, h2⟩ => ⟨h1, h2.symm⟩
  clear h
  generalize Asc.pos l sep = p at *
  by_cases hp : p < l.length
  · rw [if_pos hp] at HI
    go_enter Tryd.func31, Tryd.ntmps31
    go_wp2_with (first | (go_at_call 42; refine HP.out.mono ?_; rintro e w' ⟨rfl, rfl⟩) | (go_at_call 48; refine (HI.out _).mono ?_; rintro e w' ⟨rfl, rfl⟩))
    go_quiet (fail)
    go_wp2_with fail
    go_ret3
    refine ⟨?_, below_drewN (Below.refl _ _) nq⟩
    rw [F1.out, F2.out, F3.out, ← ext_take, ← ext_drop]
    rfl
  · rw [if_neg hp] at HI
    obtain rfl : p = l.length := by omega
    go_enter Tryd.func31, Tryd.ntmps31
    go_wp2_with (first | (go_at_call 42; refine HP.out.mono ?_; rintro e w' ⟨rfl, rfl⟩) | (go_at_call 48; refine (HI.out _).mono ?_; rintro e w' ⟨rfl, rfl⟩))
    go_quiet (fail)
    go_wp2_with fail
    go_ret3
    refine ⟨?_, below_drewN (Below.refl _ _) nq⟩
    rw [F1.out, F2.out, F3.out, ← ext_take, List.drop_length]
    rfl

set_option maxRecDepth 100000 in
set_option maxHeartbeats 4000000 in
theorem delim_quoted (l : List UInt8) (sep : UInt8) (w : World) (hs : l.length ≤ 100000000) (h : l.head? = some 34) :
    Calls Tryd.prog 31 #[.string ⟨l.toArray⟩, .int .u8 sep.toNat] w fun e w' =>
      e = .returned (.tuple #[.string ⟨(Asc.dlV l sep).toArray⟩, .string ⟨(Asc.dlR l sep).toArray⟩, .bool (Asc.dlB l sep)]) ∧ Below w.heap.size w w' := by
  have HP := Lib.hid (prefix_q l true (by simpa using h) w)
  have h0 : 0 < l.length := by cases l with | nil => cases h | cons c l => simp
  obtain ⟨R, hR⟩ : ∃ R, Asc.dq (l.drop 1) [] = R := ⟨_, rfl⟩
  have F1 := Lib.hid (show Asc.dlV l sep = Asc.vOf R by unfold Asc.dlV; rw [if_pos h, hR])
  have F2 := Lib.hid (show Asc.dlR l sep = Asc.rOf R by unfold Asc.dlR; rw [if_pos h, hR])
  have F3 := Lib.hid (dlB_q sep h hR)
  have HR := Lib.hid hR
  clear hR h
  go_enter Tryd.func31, Tryd.ntmps31
  go_wp2_with (go_at_call 42; refine HP.out.mono ?_; rintro e w' ⟨rfl, rfl⟩)
  go_loopw [8, 9] (fun v i wr => ∃ k out, 1 ≤ k ∧ k ≤ l.length ∧ out.length ≤ k ∧ i = .int .i64 (k : Nat) ∧ Asc.dq (l.drop k) out = R ∧ QI w out v wr) (fun _ i _ => l.length - (intOf i).toNat)
  case atStart => exact ⟨1, [], by omega, by omega, by simp, rfl, HR.out, QI.nil w⟩
  case round =>
    obtain ⟨k, out, hk1, hk, hol, rfl, hq, hI⟩ := hrel
    have HI := Lib.hid hI
    have HQ := Lib.hid hq
    have hown := hI.own
    have hsz := hI.below.size
    have q1 : out.length + 1 ≤ 140737488355328 := by omega
    have q2 : (out.length + 1) * 1 ≤ 140737488355328 := by omega
    clear hI hq
    by_cases hlt : k < l.length
    · obtain ⟨c, ⟨_, hx⟩, hc, hc2⟩ := byte_at l k hlt
      have HC := Lib.hid hc
      clear hc
      by_cases e34 : c = 34
      · subst e34
        have h34 : l[k] = 34 := UInt8.toNat_inj.1 HC.out
        have hsl := ext_drop l (k + 1)
        rcases Nat.lt_or_ge (k + 1) l.length with hl2 | hl2
        · obtain ⟨d, ⟨_, hy⟩, hd, hd2⟩ := byte_at l (k + 1) hl2
          have HD := Lib.hid hd
          clear hd
          by_cases e2 : d = 34
          · subst e2
            have hq := HQ.out
            rw [Asc.dq_d hl2 h34 (UInt8.toNat_inj.1 HD.out)] at hq
            have HF := Lib.hid hq
            have HPU := Lib.hid fun v' W' o => HI.out.push (v' := v') (W' := W') (o := o) 34
            clear hq h34 hsl
            go_wp2_with (at_builtin; refine wpList_append_1 rfl _ _ 22 5 (.int .u8 0) 1 rfl Tryd.underlying22 info5 rfl w.heap.size _ _ _ rfl hown (.int .u8 (34 : Int)) rfl rfl q1 q2 hsz ?_; intro v' w2 hown' hgrow)
            have HX := Lib.hid (HPU.out v' w2 _ hown' hgrow)
            clear hown hown' hgrow
            go_wp2_with fail
            go_roundw
            case rel => exact ⟨k + 2, out ++ [34], by omega, by omega, by simp; omega, i64_add2 k, HF.out, HX.out⟩
            case measure => simp [intOf]; omega
          · have hq := HQ.out
            have n2 : ∀ h : k + 1 < l.length, l[k + 1] ≠ 34 := fun _ e => e2 (by rw [← HD.out, e]; rfl)
            rw [Asc.dq_q hlt h34 n2] at hq
            have HF := Lib.hid hq
            have r2 : ((d : Int) == 34) = false := by rw [beq_eq_false_iff_ne]; omega
            have hcv : ∀ q, (convert 22 9 u8).run Tryd.prog (wr.drewN q) = .ok (.string ⟨out.toArray⟩) (wr.drewN q) := fun q => conv_own (w := wr.drewN q) hown
            clear hq h34
            rw [Asc.drop_cons hl2] at hsl HF
            have x0 : ∀ (t : List UInt8) (h : 0 < (ByteArray.mk (l[k + 1] :: t).toArray).size), ((ByteArray.mk (l[k + 1] :: t).toArray)[0]'h).toNat = (l[k + 1]).toNat := fun _ _ => rfl
            generalize l.drop (k + 1 + 1) = t at *
            generalize l[k + 1] = x at *
            by_cases hxs : x = sep
            · have r3 : ((x.toNat : Int) == (sep.toNat : Int)) = true := by rw [hxs]; simp
              have HB := Lib.hid (show ∀ R', some (out, x :: t) = R' → (R'.isSome && (decide (Asc.rOf R' = []) || decide ((Asc.rOf R').head? = some sep))) = true from fun R' e => by subst e; simp [Asc.rOf, hxs])
              clear hxs
              go_wp2_with fail
              go_quiet (fail)
              go_wp2_with fail
              go_ret3
              refine ⟨?_, below_drewN HI.out.below nq⟩
              rw [F1.out, F2.out, F3.out, HB.out R HF.out, ← HF.out]
              rfl
            · have r3 : ((x.toNat : Int) == (sep.toNat : Int)) = false := by
                rw [beq_eq_false_iff_ne]
                intro e
                exact hxs (UInt8.toNat_inj.1 (by exact_mod_cast e))
              have HB := Lib.hid (show ∀ R', some (out, x :: t) = R' → (R'.isSome && (decide (Asc.rOf R' = []) || decide ((Asc.rOf R').head? = some sep))) = false from fun R' e => by subst e; simp [Asc.rOf, hxs])
              clear hxs
              go_wp2_with fail
              go_quiet (fail)
              go_wp2_with fail
              go_ret3
              refine ⟨?_, below_drewN HI.out.below nq⟩
              rw [F1.out, F2.out, F3.out, HB.out R HF.out, ← HF.out]
              rfl
        · have hq := HQ.out
          rw [Asc.dq_q hlt h34 (fun h => by omega), List.drop_of_length_le hl2] at hq
          rw [List.drop_of_length_le hl2] at hsl
          have HF := Lib.hid hq
          have hcv : ∀ q, (convert 22 9 u8).run Tryd.prog (wr.drewN q) = .ok (.string ⟨out.toArray⟩) (wr.drewN q) := fun q => conv_own (w := wr.drewN q) hown
          have HB := Lib.hid (show ∀ R', some (out, ([] : List UInt8)) = R' → (R'.isSome && (decide (Asc.rOf R' = []) || decide ((Asc.rOf R').head? = some sep))) = true from fun R' e => by subst e; simp [Asc.rOf])
          have hge : (l.length : Int) ≤ (k : Int) + 1 := by omega
          clear hq h34
          go_wp2_with fail
          go_quiet (fail)
          go_wp2_with fail
          go_ret3
          refine ⟨?_, below_drewN HI.out.below nq⟩
          rw [F1.out, F2.out, F3.out, HB.out R HF.out, ← HF.out]
          rfl
      · have n34 : l[k] ≠ 34 := fun e => e34 (by rw [← HC.out, e]; rfl)
        have r34 : ((c : Int) == 34) = false := by rw [beq_eq_false_iff_ne]; omega
        have s34 : ((c : Int) != 34) = true := by rw [bne_iff_ne]; omega
        have hq := HQ.out
        rw [Asc.dq_o hlt n34] at hq
        have HF := Lib.hid hq
        have HPU := Lib.hid fun v' W' o => HI.out.push (v' := v') (W' := W') (o := o) l[k]
        rw [HC.out] at HPU
        clear hq n34 e34
        go_wp2_with (at_builtin; refine wpList_append_1 rfl _ _ 22 5 (.int .u8 0) 1 rfl Tryd.underlying22 info5 rfl w.heap.size _ _ _ rfl hown (.int .u8 (c : Int)) rfl rfl q1 q2 hsz ?_; intro v' w2 hown' hgrow)
        have HX := Lib.hid (HPU.out v' w2 _ hown' hgrow)
        clear hown hown' hgrow
        go_wp2_with fail
        go_roundw
        case rel => exact ⟨k + 1, out ++ [l[k]], by omega, by omega, by simp; omega, i64_succ k, HF.out, HX.out⟩
        case measure => simp [intOf]; omega
    · obtain rfl : k = l.length := by omega
      have hq := HQ.out
      rw [Asc.dq_end] at hq
      subst hq
      go_wp2_with fail
      go_ret3
      exact ⟨by rw [F1.out, F2.out, F3.out]; rfl, HI.out.below⟩

theorem delim_any (l : List UInt8) (sep : UInt8) (w : World) (hs : l.length ≤ 100000000) :
    Calls Tryd.prog 31 #[.string ⟨l.toArray⟩, .int .u8 sep.toNat] w fun e w' =>
      e = .returned (.tuple #[.string ⟨(Asc.dlV l sep).toArray⟩, .string ⟨(Asc.dlR l sep).toArray⟩, .bool (Asc.dlB l sep)]) ∧ Below w.heap.size w w' := by
  by_cases h : l.head? = some 34
  · exact delim_quoted l sep w hs h
  · exact delim_plain l sep w h

end Go.Proofs.YtfdbjgdafolbmaaDoor

/-
  Value and Number of the reference; Number of package extract; the sanity check.
-/
import Derived.Test.YtmcnhphmglmmeabDoorExtD
namespace Go.Proofs.YtmcnhphmglmmeabDoor
open Go.RowKit Go.Maps Go.ChangeMaps

set_option maxHeartbeats 2000000 in
theorem rvalue_any (v : Value) (x : Ev) (nm : List UInt8) (w : World) (hv : EvV w v x) (ho : EvOk x) :
    Calls Tryd.prog 9 #[v, .string ⟨nm.toArray⟩] w (GetPost w (valL x nm)) := by
  have HV := Lib.hid hv
  obtain ⟨a, b, la, ln, lc, fa, fc, rfl, hf⟩ := hv
  have hb0 : Below w.heap.size w (w.alloc (.cells #[.int .i64 x.host, .int .i64 x.file, .int .i64 a, .int .i64 b, .slice la ln lc, .int .i64 x.time, .int .i64 x.weight, .string ⟨x.trace.toArray⟩, .string ⟨x.stream.toArray⟩, .slice fa x.flds.length fc] 29)) := (Below.refl _ _).alloc (Nat.le_refl _) _
  have HB0 := Lib.hid hb0
  have HO := Lib.hid ho
  have HF := Lib.hid hf
  clear hb0 ho hf
  unfold valL
  by_cases n0 : nm = nHost
  · subst n0
    rw [if_pos rfl]
    clear HV HF
    unfold nHost
    go_enter Tryd.func9, Tryd.ntmps9
    go_wp2_with fail
    refine (decimal_any x.host _ HO.out.h1).mono ?_
    rintro e w1 ⟨rfl, hb1⟩
    go_wp2_with fail
    go_ret2
    exact ⟨rfl, HB0.out.trans (hb1.mono (by simp))⟩
  rw [if_neg n0]
  have q0 : (nm == [64, 104, 111, 115, 116]) = false := beq_eq_false_iff_ne.2 n0
  clear n0
  by_cases n1 : nm = nFile
  · subst n1
    rw [if_pos rfl]
    clear HV HF
    unfold nFile
    go_enter Tryd.func9, Tryd.ntmps9
    go_wp2_with fail
    refine (decimal_any x.file _ HO.out.h2).mono ?_
    rintro e w1 ⟨rfl, hb1⟩
    go_wp2_with fail
    go_ret2
    exact ⟨rfl, HB0.out.trans (hb1.mono (by simp))⟩
  rw [if_neg n1]
  have q1 : (nm == [64, 102, 105, 108, 101]) = false := beq_eq_false_iff_ne.2 n1
  clear n1
  by_cases n2 : nm = nTime
  · subst n2
    rw [if_pos rfl]
    clear HV HF
    unfold nTime
    go_enter Tryd.func9, Tryd.ntmps9
    go_wp2_with fail
    refine (decimal_any x.time _ HO.out.h3).mono ?_
    rintro e w1 ⟨rfl, hb1⟩
    go_wp2_with fail
    go_ret2
    exact ⟨rfl, HB0.out.trans (hb1.mono (by simp))⟩
  rw [if_neg n2]
  have q2 : (nm == [64, 116, 105, 109, 101]) = false := beq_eq_false_iff_ne.2 n2
  clear n2
  by_cases n3 : nm = nWeight
  · subst n3
    rw [if_pos rfl]
    clear HV HF
    unfold nWeight
    go_enter Tryd.func9, Tryd.ntmps9
    go_wp2_with fail
    refine (decimal_any x.weight _ HO.out.h4).mono ?_
    rintro e w1 ⟨rfl, hb1⟩
    go_wp2_with fail
    go_ret2
    exact ⟨rfl, HB0.out.trans (hb1.mono (by simp))⟩
  rw [if_neg n3]
  have q3 : (nm == [64, 119, 101, 105, 103, 104, 116]) = false := beq_eq_false_iff_ne.2 n3
  clear n3
  by_cases n4 : nm = nTrace
  · subst n4
    rw [if_pos rfl]
    clear HV HF
    unfold nTrace
    go_enter Tryd.func9, Tryd.ntmps9
    go_wp2_with fail
    go_ret2
    exact ⟨rfl, HB0.out⟩
  rw [if_neg n4]
  have q4 : (nm == [64, 116, 114, 97, 99, 101]) = false := beq_eq_false_iff_ne.2 n4
  clear n4
  by_cases n5 : nm = nStream
  · subst n5
    rw [if_pos rfl]
    clear HV HF
    unfold nStream
    go_enter Tryd.func9, Tryd.ntmps9
    go_wp2_with fail
    go_ret2
    exact ⟨rfl, HB0.out⟩
  rw [if_neg n5]
  have q5 : (nm == [64, 115, 116, 114, 101, 97, 109]) = false := beq_eq_false_iff_ne.2 n5
  clear n5
  have HG := Lib.hid fun W (hb : Below w.heap.size w W) => rGet_any _ x.flds nm W (HF.out.later hb) HO.out.h7
  clear HV HF HO
  go_enter Tryd.func9, Tryd.ntmps9
  go_wp2_with fail
  refine (HG.out _ HB0.out).mono ?_
  rintro e w1 ⟨rfl, hb1⟩
  go_wp2_with fail
  go_ret2
  exact ⟨rfl, HB0.out.trans (hb1.mono (by simp))⟩

/-- The number of a name. -/
def numP (w : World) (R : Option (List UInt8)) (e : Ending) (w' : World) : Prop :=
  e = .returned (.tuple #[.int .i64 (match R with | some s => Asc.numN s | none => 0), .bool (match R with | some s => Asc.numB s | none => false)]) ∧ Below w.heap.size w w'
theorem gv_len {d : List Fd} {nm s : List UInt8} (hd : ∀ f ∈ d, f.2.length ≤ 1000) (h : gv d nm = some s) : s.length ≤ 1000 := by
  induction d with
  | nil => cases h
  | cons f d ih =>
    rw [gv] at h
    split at h
    · injection h with h
      subst h
      exact hd f (by simp)
    · exact ih (fun g hg => hd g (List.mem_cons_of_mem _ hg)) h
theorem val_len {x : Ev} {nm s : List UInt8} (ho : EvOk x) (h : valL x nm = some s) : s.length ≤ 1000 := by
  unfold valL at h
  have k : ∀ {u}, u ≤ 1000000000000000000 → (Lib.decDigits u).length ≤ 1000 := fun hu => Nat.le_trans (decD_len hu) (by decide)
  repeat' split at h
  · injection h with h; subst h; exact k ho.h1
  · injection h with h; subst h; exact k ho.h2
  · injection h with h; subst h; exact k ho.h3
  · injection h with h; subst h; exact k ho.h4
  · injection h with h; subst h; exact ho.h5
  · injection h with h; subst h; exact ho.h6
  · exact gv_len ho.h8 h
theorem pnumber_any (v : Value) (x : Ev) (nm : List UInt8) (w : World) (hp : Pow w) (hv : EvV w v x) (ho : EvOk x) (hn : nm.length ≤ 1000000) :
    Calls Tryd.prog 10 #[v, .string ⟨nm.toArray⟩] w (numP w (valL x nm)) := by
  have HV := Lib.hid fun W (hb : Below w.heap.size w W) => value_any v x nm W (hp.below hb) (hv.later hb) ho hn
  obtain ⟨a, b, la, ln, lc, fa, fc, rfl, hf⟩ := hv
  have hb0 : Below w.heap.size w (w.alloc (.cells #[.int .i64 x.host, .int .i64 x.file, .int .i64 a, .int .i64 b, .slice la ln lc, .int .i64 x.time, .int .i64 x.weight, .string ⟨x.trace.toArray⟩, .string ⟨x.stream.toArray⟩, .slice fa x.flds.length fc] 29)) := (Below.refl _ _).alloc (Nat.le_refl _) _
  have HB0 := Lib.hid hb0
  have HL := Lib.hid fun s => val_len (s := s) (nm := nm) ho
  clear hb0 ho hf hn hp
  obtain ⟨R, hR⟩ : ∃ R, valL x nm = R := ⟨_, rfl⟩
  rw [hR] at HV HL ⊢
  clear hR
  cases R with
  | none =>
    go_enter Tryd.func10, Tryd.ntmps10
    go_wp2_with fail
    refine (HV.out _ HB0.out).mono ?_
    rintro e w1 ⟨rfl, hb1⟩
    go_wp2_with fail
    go_ret2
    exact ⟨rfl, HB0.out.trans (hb1.mono (by simp))⟩
  | some s =>
    have HP := Lib.hid fun W => parse_any s W
    clear HL
    go_enter Tryd.func10, Tryd.ntmps10
    go_wp2_with fail
    refine (HV.out _ HB0.out).mono ?_
    rintro e w1 ⟨rfl, hb1⟩
    have hb2 := HB0.out.trans (hb1.mono (by simp))
    go_wp2_with fail
    refine (HP.out w1).mono ?_
    rintro e w2 ⟨rfl, hb3⟩
    go_wp2_with fail
    go_ret2
    exact ⟨rfl, hb2.trans (hb3.mono hb2.size)⟩
theorem rnum_any (v : Value) (x : Ev) (nm : List UInt8) (w : World) (hv : EvV w v x) (ho : EvOk x) :
    Calls Tryd.prog 11 #[v, .string ⟨nm.toArray⟩] w (numP w (valL x nm)) := by
  have HV := Lib.hid fun W (hb : Below w.heap.size w W) => rvalue_any v x nm W (hv.later hb) ho
  obtain ⟨a, b, la, ln, lc, fa, fc, rfl, hf⟩ := hv
  have hb0 : Below w.heap.size w (w.alloc (.cells #[.int .i64 x.host, .int .i64 x.file, .int .i64 a, .int .i64 b, .slice la ln lc, .int .i64 x.time, .int .i64 x.weight, .string ⟨x.trace.toArray⟩, .string ⟨x.stream.toArray⟩, .slice fa x.flds.length fc] 29)) := (Below.refl _ _).alloc (Nat.le_refl _) _
  have HB0 := Lib.hid hb0
  have HL := Lib.hid fun s => val_len (s := s) (nm := nm) ho
  clear hb0 ho hf
  obtain ⟨R, hR⟩ : ∃ R, valL x nm = R := ⟨_, rfl⟩
  rw [hR] at HV HL ⊢
  clear hR
  cases R with
  | none =>
    go_enter Tryd.func11, Tryd.ntmps11
    go_wp2_with fail
    refine (HV.out _ HB0.out).mono ?_
    rintro e w1 ⟨rfl, hb1⟩
    go_wp2_with fail
    go_ret2
    exact ⟨rfl, HB0.out.trans (hb1.mono (by simp))⟩
  | some s =>
    have HP := Lib.hid fun W => rparse_any s W (Nat.le_trans (HL.out s rfl) (by decide))
    clear HL
    go_enter Tryd.func11, Tryd.ntmps11
    go_wp2_with fail
    refine (HV.out _ HB0.out).mono ?_
    rintro e w1 ⟨rfl, hb1⟩
    have hb2 := HB0.out.trans (hb1.mono (by simp))
    go_wp2_with fail
    refine (HP.out w1).mono ?_
    rintro e w2 ⟨rfl, rfl⟩
    go_wp2_with fail
    go_ret2
    exact ⟨rfl, hb2⟩

theorem awake_any (w : World) : Calls Tryd.prog 4 #[] w fun e w' => e = .returned (.bool true) ∧ Below w.heap.size w w' := by
  have e3 : Asc.numN [45, 49, 50] = -12 := by decide +kernel
  have e4 : Asc.numB [45, 49, 50] = true := by decide +kernel
  have HP := Lib.hid (parse_any [45, 49, 50] w)
  rw [e3, e4] at HP
  clear e3 e4
  go_enter Tryd.func4, Tryd.ntmps4
  go_wp2_with (go_at_call 13; refine HP.out.mono ?_; rintro e w1 ⟨rfl, hb1⟩)
  go_ret
  exact ⟨rfl, hb1⟩

end Go.Proofs.YtmcnhphmglmmeabDoor

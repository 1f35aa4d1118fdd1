/-
  The reference: FieldName says no; Sort for every list; Same; the empty list.
-/
import Derived.Test.YtfdbjgdafolbmaaDoorSoG
namespace Go.Proofs.YtfdbjgdafolbmaaDoor
open Go.RowKit Go.Sort Go.Shelf

set_option maxHeartbeats 1000000 in
theorem fieldName_bad (l : List UInt8) (w : World) (hpos : 0 < l.length) (hlen : l.length ≤ 32) (hfirst : Asc.isLetter (l[0]).toNat = true ∨ l[0] = 95) (hall : Bad l 0) :
    Calls Tryd.prog 22 #[.string ⟨l.toArray⟩] w fun e w' => e = .returned (.bool false) ∧ w = w' := by
  obtain ⟨c0, ⟨_, hx0⟩, hc0, hb0⟩ := byte_at l 0 hpos
  have HL := Lib.hid (rletter_any c0 w hb0)
  have HALL := Lib.hid hall
  have e1 : decide (32 < (l.length : Int)) = false := decide_eq_false (by omega)
  have e2 : decide ((l.length : Int) < 1) = false := decide_eq_false (by omega)
  rw [hc0] at hfirst
  have hfc : Asc.isLetter c0 = true ∨ c0 = 95 := hfirst.imp id (fun e => by rw [← hc0, e]; rfl)
  clear hall hfirst hc0
  cases hl : Asc.isLetter c0
  · obtain rfl : c0 = 95 := by rcases hfc with h | h; rw [hl] at h; cases h; exact h
    rw [hl] at HL
    clear hl hfc
    go_enter Tryd.func22, Tryd.ntmps22
    go_wp2_with (go_at_call 35; refine HL.out.mono ?_; rintro e w' ⟨rfl, rfl⟩)
    go_loop [3] (fun i => ∃ k : Nat, k ≤ l.length ∧ i = .int .i64 k ∧ Bad l k) (fun i => l.length - (intOf i).toNat)
    case atStart => exact ⟨0, by omega, rfl, HALL.out⟩
    case round =>
      obtain ⟨k, hkl, rfl, hbad⟩ := hrel
      have HBD := Lib.hid hbad
      clear hbad
      by_cases hlt : k < l.length
      · obtain ⟨c, ⟨_, hy⟩, hcc, hcb⟩ := byte_at l k hlt
        by_cases hgood : Asc.isWord c = true ∨ c = 46
        · have HNX := Lib.hid (show Bad l (k + 1) by
            obtain ⟨i, hi, h1, h2, h3⟩ := HBD.out
            refine ⟨i, hi, ?_, h2, h3⟩
            rcases Nat.lt_or_ge k i with c' | c'
            · exact c'
            · obtain rfl : i = k := by omega
              rw [hcc] at h2
              rcases hgood with h | h
              · rw [h] at h2; cases h2
              · exact absurd (UInt8.toNat_inj.1 (show (l[i]).toNat = (46 : UInt8).toNat from hcc.trans h)) h3)
          clear hcc
          have HW := Lib.hid (rword_any c w hcb)
          cases hw : Asc.isWord c
          · obtain rfl : c = 46 := by rcases hgood with h | h; rw [hw] at h; cases h; exact h
            rw [hw] at HW
            clear hw hgood
            go_wp2_with (go_at_call 36; refine HW.out.mono ?_; rintro e w' ⟨rfl, rfl⟩)
            go_round
            case rel => exact ⟨k + 1, by omega, by go_num, HNX.out⟩
            case measure => simp [intOf]; omega
          · rw [hw] at HW
            clear hw hgood
            go_wp2_with (go_at_call 36; refine HW.out.mono ?_; rintro e w' ⟨rfl, rfl⟩)
            go_round
            case rel => exact ⟨k + 1, by omega, by go_num, HNX.out⟩
            case measure => simp [intOf]; omega
        · have HW := Lib.hid (rword_any c w hcb)
          have hw : Asc.isWord c = false := by
            cases e : Asc.isWord c
            · rfl
            · exact absurd (.inl e) hgood
          have h46 : ((c : Int) != 46) = true := by rw [bne_iff_ne]; exact fun e => hgood (.inr (by omega))
          rw [hw] at HW
          clear hw hgood hcc
          go_wp2_with (go_at_call 36; refine HW.out.mono ?_; rintro e w' ⟨rfl, rfl⟩)
          go_ret
          exact ⟨rfl, rfl⟩
      · obtain ⟨i, hi, h1, _⟩ := HBD.out
        exact absurd (show k < l.length by omega) hlt
  · rw [hl] at HL
    clear hl hfc
    go_enter Tryd.func22, Tryd.ntmps22
    go_wp2_with (go_at_call 35; refine HL.out.mono ?_; rintro e w' ⟨rfl, rfl⟩)
    go_loop [3] (fun i => ∃ k : Nat, k ≤ l.length ∧ i = .int .i64 k ∧ Bad l k) (fun i => l.length - (intOf i).toNat)
    case atStart => exact ⟨0, by omega, rfl, HALL.out⟩
    case round =>
      obtain ⟨k, hkl, rfl, hbad⟩ := hrel
      have HBD := Lib.hid hbad
      clear hbad
      by_cases hlt : k < l.length
      · obtain ⟨c, ⟨_, hy⟩, hcc, hcb⟩ := byte_at l k hlt
        by_cases hgood : Asc.isWord c = true ∨ c = 46
        · have HNX := Lib.hid (show Bad l (k + 1) by
            obtain ⟨i, hi, h1, h2, h3⟩ := HBD.out
            refine ⟨i, hi, ?_, h2, h3⟩
            rcases Nat.lt_or_ge k i with c' | c'
            · exact c'
            · obtain rfl : i = k := by omega
              rw [hcc] at h2
              rcases hgood with h | h
              · rw [h] at h2; cases h2
              · exact absurd (UInt8.toNat_inj.1 (show (l[i]).toNat = (46 : UInt8).toNat from hcc.trans h)) h3)
          clear hcc
          have HW := Lib.hid (rword_any c w hcb)
          cases hw : Asc.isWord c
          · obtain rfl : c = 46 := by rcases hgood with h | h; rw [hw] at h; cases h; exact h
            rw [hw] at HW
            clear hw hgood
            go_wp2_with (go_at_call 36; refine HW.out.mono ?_; rintro e w' ⟨rfl, rfl⟩)
            go_round
            case rel => exact ⟨k + 1, by omega, by go_num, HNX.out⟩
            case measure => simp [intOf]; omega
          · rw [hw] at HW
            clear hw hgood
            go_wp2_with (go_at_call 36; refine HW.out.mono ?_; rintro e w' ⟨rfl, rfl⟩)
            go_round
            case rel => exact ⟨k + 1, by omega, by go_num, HNX.out⟩
            case measure => simp [intOf]; omega
        · have HW := Lib.hid (rword_any c w hcb)
          have hw : Asc.isWord c = false := by
            cases e : Asc.isWord c
            · rfl
            · exact absurd (.inl e) hgood
          have h46 : ((c : Int) != 46) = true := by rw [bne_iff_ne]; exact fun e => hgood (.inr (by omega))
          rw [hw] at HW
          clear hw hgood hcc
          go_wp2_with (go_at_call 36; refine HW.out.mono ?_; rintro e w' ⟨rfl, rfl⟩)
          go_ret
          exact ⟨rfl, rfl⟩
      · obtain ⟨i, hi, h1, _⟩ := HBD.out
        exact absurd (show k < l.length by omega) hlt

theorem fieldName_no (l : List UInt8) (w : World) (h : ¬ NameOk l) (hml : l.length ≤ 9223372036854775807) :
    Calls Tryd.prog 22 #[.string ⟨l.toArray⟩] w fun e w' => e = .returned (.bool false) ∧ w = w' := by
  rcases Nat.eq_zero_or_pos l.length with h0 | hpos
  · obtain rfl := List.length_eq_zero_iff.1 h0
    clear h0 h hml
    go_enter Tryd.func22, Tryd.ntmps22
    go_wp2_with fail
    go_ret
    exact ⟨rfl, rfl⟩
  · have e2 : decide ((l.length : Int) < 1) = false := decide_eq_false (by omega)
    rcases Nat.lt_or_ge 32 l.length with h32 | h32
    · have e1 : decide (32 < (l.length : Int)) = true := decide_eq_true (by omega)
      clear h
      go_enter Tryd.func22, Tryd.ntmps22
      go_wp2_with fail
      go_ret
      exact ⟨rfl, rfl⟩
    · have e1 : decide (32 < (l.length : Int)) = false := decide_eq_false (by omega)
      by_cases hf : Asc.isLetter (l[0]).toNat = true ∨ l[0] = 95
      · refine fieldName_bad l w hpos h32 hf ?_
        rcases not_name h with h1 | h1 | ⟨_, h1, h2⟩ | h1
        · rw [h1] at hpos; simp at hpos
        · omega
        · rcases hf with h3 | h3
          · rw [h1] at h3; cases h3
          · exact absurd h3 h2
        · exact h1
      · obtain ⟨c0, ⟨_, hx0⟩, hc0, hb0⟩ := byte_at l 0 hpos
        have HL := Lib.hid (rletter_any c0 w hb0)
        have hl : Asc.isLetter c0 = false := by
          cases e : Asc.isLetter c0
          · rfl
          · exact absurd (.inl (by rw [hc0]; exact e)) hf
        have h95 : ((c0 : Int) != 95) = true := by
          rw [bne_iff_ne]
          intro e
          exact hf (.inr (UInt8.toNat_inj.1 (hc0.trans (by show c0 = 95; omega))))
        rw [hl] at HL
        clear h hf hc0 hl
        go_enter Tryd.func22, Tryd.ntmps22
        go_wp2_with (go_at_call 35; refine HL.out.mono ?_; rintro e w' ⟨rfl, rfl⟩)
        go_ret
        exact ⟨rfl, rfl⟩

theorem refSort_many (v : Value) (d : List Fd) (w : World) (hv : FI w v d) (h : 32 < d.length) (hl : d.length ≤ 9223372036854775807) :
    Calls Tryd.prog 10 #[v] w fun e w' => e = .returned (.tuple #[.slice none 0 0, .int .i64 4]) ∧ w = w' := by
  obtain ⟨a, cap, rfl, _⟩ := hv
  have t1 : decide (32 < (d.length : Int)) = true := by simp; omega
  go_enter Tryd.func10, Tryd.ntmps10
  go_wp2_with fail
  go_ret2
  exact ⟨rfl, rfl⟩
set_option maxHeartbeats 1000000 in
theorem refSort_bad (v : Value) (d : List Fd) (w : World) (hv : FI w v d) (h32 : d.length ≤ 32) (hbad : BadF d 0) (hml : ∀ i (h : i < d.length), (d[i]).1.length ≤ 9223372036854775807) :
    Calls Tryd.prog 10 #[v] w fun e w' => e = .returned (.tuple #[.slice none 0 0, .int .i64 6]) ∧ w = w' := by
  obtain ⟨a, cap, rfl, hc⟩ := hv
  have HC := Lib.hid hc
  have HM := Lib.hid hml
  have HB0 := Lib.hid hbad
  clear hc hml hbad
  have t1 : decide (32 < (d.length : Int)) = false := by simp; omega
  go_enter Tryd.func10, Tryd.ntmps10
  go_wp2_with fail
  go_loop [4] (fun i => ∃ k : Nat, k ≤ d.length ∧ i = .int .i64 k ∧ BadF d k) (fun i => d.length - (intOf i).toNat)
  case atStart => exact ⟨0, by omega, rfl, HB0.out⟩
  case round =>
    obtain ⟨k, hk, rfl, hbad⟩ := hrel
    have HBD := Lib.hid hbad
    clear hbad HB0
    by_cases hlt : k < d.length
    · obtain ⟨g, off, rfl, hg, hf⟩ := HC.out (by omega)
      have c0 := (hf k hlt).1
      have i1 : (k : Int) < (d.length : Int) := by omega
      have i2 : (0 : Int) ≤ (k : Int) := by omega
      by_cases hok : NameOk (d[k]).1
      · have HF := Lib.hid (fieldName_yes (d[k]).1 w hok)
        have HNX := Lib.hid (show BadF d (k + 1) by
          obtain ⟨i, hi, h1, h2⟩ := HBD.out
          refine ⟨i, hi, ?_, h2⟩
          rcases Nat.lt_or_ge k i with c | c
          · exact c
          · obtain rfl : i = k := by omega
            exact absurd hok h2)
        clear hok hf
        generalize (d[k]).1 = nm at *
        go_wp2_with (go_at_call 22; refine HF.out.mono ?_; rintro e w' ⟨rfl, rfl⟩)
        go_round
        case rel => exact ⟨k + 1, by omega, by go_num, HNX.out⟩
        case measure => simp [intOf]; omega
      · have HF := Lib.hid (fieldName_no (d[k]).1 w hok (HM.out k hlt))
        clear hok hf
        generalize (d[k]).1 = nm at *
        go_wp2_with (go_at_call 22; refine HF.out.mono ?_; rintro e w' ⟨rfl, rfl⟩)
        go_ret2
        exact ⟨rfl, rfl⟩
    · obtain ⟨i, hi, h1, _⟩ := HBD.out
      exact absurd (show k < d.length by omega) hlt

/-- Two lists of fields that are the same. -/
theorem sameG (va vb : Value) (d : List Fd) (w : World) (ha : FI w va d) (hb : FI w vb d) (hl : d.length ≤ 1000) :
    Calls Tryd.prog 12 #[va, vb] w fun e w' => e = .returned (.bool true) ∧ RowKit.Below w.heap.size w w' := by
  obtain ⟨a, ca, rfl, ha⟩ := ha
  obtain ⟨b, cb, rfl, hb⟩ := hb
  have HA := Lib.hid ha
  have HB := Lib.hid hb
  clear ha hb
  go_enter Tryd.func12, Tryd.ntmps12
  go_wp2_with fail
  go_loopw [5] (fun i wr => ∃ k q : Nat, k ≤ d.length ∧ i = .int .i64 k ∧ wr = w.drewN q) (fun i _ => d.length - (intOf i).toNat)
  case atStart => exact ⟨0, 0, by omega, rfl, rfl⟩
  case round =>
    obtain ⟨k, q, hk, rfl, rfl⟩ := hrel
    by_cases hlt : k < d.length
    · obtain ⟨g, off, rfl, _, hf⟩ := HA.out (by omega)
      obtain ⟨g2, off2, rfl, _, hf2⟩ := HB.out (by omega)
      obtain ⟨a1, a2⟩ := hf k hlt
      obtain ⟨b1, b2⟩ := hf2 k hlt
      have c1 : (w.drewN q).cell? ⟨g, off + k * 2, none⟩ = some (.string ⟨(d[k]).1.toArray⟩) := a1
      have c2 : (w.drewN q).cell? ⟨g, off + k * 2 + 1, none⟩ = some (.string ⟨(d[k]).2.toArray⟩) := a2
      have c3 : (w.drewN q).cell? ⟨g2, off2 + k * 2, none⟩ = some (.string ⟨(d[k]).1.toArray⟩) := b1
      have c4 : (w.drewN q).cell? ⟨g2, off2 + k * 2 + 1, none⟩ = some (.string ⟨(d[k]).2.toArray⟩) := b2
      have i1 : (k : Int) < (d.length : Int) := by omega
      have i2 : (0 : Int) ≤ (k : Int) := by omega
      clear a1 a2 b1 b2 hf hf2
      generalize (d[k]).1 = x at *
      generalize (d[k]).2 = y at *
      generalize hW : w.drewN q = W at *
      go_wp2_with fail
      go_quiet (fail)
      go_wp2_with fail
      go_roundw
      case rel => exact ⟨k + 1, _, by omega, by go_num, by rw [← hW, World.drewN_drewN]⟩
      case measure => simp [intOf]; omega
    · go_wp2_with fail
      go_ret
      exact ⟨rfl, below_drewN (Below.refl _ _) q⟩

/-! The empty list, nil or not. -/
theorem ins0 (a : Option Addr) (c : Nat) (w : World) : Calls Tryd.prog 62 #[.slice a 0 c, .int .i64 0, .int .i64 0, cmpV] w fun e w' => e = .returned (.tuple #[]) ∧ w = w' := by
  go_enter Tryd.func62, Tryd.ntmps62
  go_wp2_with fail
  refine wp_loop_rounds 1 ?_
  rw [rounds_succ]
  go_wp2_with fail
  go_end0
  exact ⟨rfl, rfl⟩
theorem stable0 (a : Option Addr) (c : Nat) (w : World) : Calls Tryd.prog 46 #[.slice a 0 c, .int .i64 0, cmpV] w fun e w' => e = .returned (.tuple #[]) ∧ w = w' := by
  go_enter Tryd.func46, Tryd.ntmps46
  go_wp2_with fail
  refine wp_loop_rounds 1 ?_
  rw [rounds_succ]
  go_wp2_with (go_at_call 62; refine (ins0 _ _ _).mono ?_; rintro e w' ⟨rfl, rfl⟩)
  refine wp_loop_rounds 1 ?_
  rw [rounds_succ]
  go_wp2_with fail
  go_end0
  exact ⟨rfl, rfl⟩
theorem sort0 (a : Option Addr) (c : Nat) (w : World) : Calls Tryd.prog 28 #[.slice a 0 c, cmpV] w fun e w' => e = .returned (.tuple #[]) ∧ w = w' := by
  go_enter Tryd.func28, Tryd.ntmps28
  go_wp2_with (go_at_call 46; refine (stable0 _ _ _).mono ?_; rintro e w' ⟨rfl, rfl⟩)
  go_end0
  exact ⟨rfl, rfl⟩
def Emp (w : World) (e : Ending) (w' : World) : Prop := ∃ a c, e = .returned (.slice a 0 c) ∧ RowKit.Below w.heap.size w w'
theorem clone0n (cap : Nat) (w : World) : Calls Tryd.prog 27 #[.slice none 0 cap] w (Emp w) := by
  have hnil : (binOp .eql 27 (.slice none 0 cap) (.slice none 0 0)).run Tryd.prog w = .ok (.bool true) w :=
    Lib.run_eql_slice_nil w 27 30 none 0 cap 0 0 Tryd.underlying27
  go_enter Tryd.func27, Tryd.ntmps27
  go_wp2_with fail
  go_ret
  exact ⟨_, _, rfl, Below.refl _ _⟩
theorem clone0 (ad : Addr) (cap : Nat) (w : World) :
    Calls Tryd.prog 27 #[.slice (some ad) 0 cap] w (Emp w) := by
  obtain ⟨i0, hi, hz0, hz1, hz2⟩ := info_parts infoF
  have hnil : (binOp .eql 27 (.slice (some ad) 0 cap) (.slice none 0 0)).run Tryd.prog w = .ok (.bool false) w :=
    Lib.run_eql_slice_nil w 27 30 (some ad) 0 cap 0 0 Tryd.underlying27
  have hown : (w.alloc (.cells #[] 30)).ownsRow w.heap.size 30 2 (.slice (some ⟨w.heap.size, 0, none⟩) 0 0) 0 [] :=
    ⟨rfl, .inr ⟨w.heap.size, 0, #[], rfl, Nat.le_refl _, by simp [World.alloc, -World.alloc_eq], Nat.le_refl _, by unfold maxLen; omega, rfl, rfl⟩⟩
  have q1 : 0 + 0 ≤ maxLen := by unfold maxLen; omega
  go_enter Tryd.func27, Tryd.ntmps27
  go_wp2_with (at_builtin; refine wpList_append_own _ rfl _ _ 27 rfl w.heap.size 30 i0 (.agg #[.string ⟨#[]⟩, .string ⟨#[]⟩]) 2 32 Tryd.underlying27 hi hz0 hz1 hz2 rfl (by decide) _ _ _ rfl hown ad 0 cap [] rfl rfl (fun j u h => by simp at h) (fun u h => by simp at h) q1 (by omega) (by simp) ?_; intro v' w2 hown' hgrow _)
  obtain ⟨a, c, hv⟩ : ∃ a c, v' = .slice a 0 c := by
    obtain ⟨_, ⟨e, _⟩ | ⟨g', c', cur, hv, _⟩⟩ := hown'
    · exact ⟨_, _, e⟩
    · exact ⟨_, _, hv⟩
  subst hv
  go_ret
  exact ⟨a, c, rfl, ((Below.refl _ w).alloc (Nat.le_refl _) _).grown hgrow (by simp) (fun k hk => by cases hk; exact Nat.le_refl _)⟩
def Emp2 (w : World) (e : Ending) (w' : World) : Prop := ∃ a c, e = .returned (.tuple #[.slice a 0 c, .int .i64 0]) ∧ RowKit.Below w.heap.size w w'
theorem pSort_empty (a : Option Addr) (cap : Nat) (w : World) : Calls Tryd.prog 15 #[.slice a 0 cap] w (Emp2 w) := by
  have HC : Hid (Calls Tryd.prog 27 #[.slice a 0 cap] w (Emp w)) := by
    cases a with
    | none => exact clone0n cap w
    | some ad => exact clone0 ad cap w
  go_enter Tryd.func15, Tryd.ntmps15
  go_wp2_with fail
  refine wp_loop_rounds 1 ?_
  rw [rounds_succ]
  go_wp2_with fail
  refine HC.out.mono ?_
  rintro e w1 ⟨a1, c1, rfl, hb⟩
  go_wp2_with fail
  refine (sort0 _ _ _).mono ?_
  rintro e w' ⟨rfl, rfl⟩
  go_wp2_with fail
  refine wp_loop_rounds 1 ?_
  rw [rounds_succ]
  go_wp2_with fail
  go_ret2
  exact ⟨a1, c1, rfl, hb⟩

/-- Sort of package parse, for every list. -/
theorem pSort_fi (v : Value) (d : List Fd) (w : World) (hk : Kinds w) (hv : FI w v d) (hl : d.length ≤ 9223372036854775807) : Calls Tryd.prog 15 #[v] w (SortR w d) := by
  rcases Nat.lt_or_ge 32 d.length with h | h
  · exact pSort_many v d w hv h hl
  · obtain ⟨a, cap, rfl, hf⟩ := hv
    rcases Nat.eq_zero_or_pos d.length with h0 | h0
    · obtain rfl := List.length_eq_zero_iff.1 h0
      refine (pSort_empty a cap w).mono fun e w' ⟨a', c', h1, h2⟩ => .inr (.inr ⟨by simp, ?_, #[], ⟨permIn_refl _ _ _, fun i j _ _ h => by simp at h⟩, .inr ⟨?_, _, h1, ⟨a', c', rfl, fun h => by simp at h⟩, h2⟩⟩)
      · rintro ⟨i, hi, _⟩; simp at hi
      · rintro ⟨i, _, _, hi, _⟩; simp at hi
    · obtain ⟨g, off, rfl, hg, hf⟩ := hf h0
      exact pSort_pos g off cap d w hk hg hf h0 h

/-- What both sorts say. -/
inductive Both (w : World) (d : List Fd) (e : Ending) (w' : World) : Prop
  | err (c : Nat) (hc : c ≠ 0) (h : e = .returned (.tuple #[.slice none 0 0, .int .i64 c])) (hb : RowKit.Below w.heap.size w w') (hw : (32 < d.length ∧ c = 4) ∨ (d.length ≤ 32 ∧ BadF d 0 ∧ c = 6) ∨ (d.length ≤ 32 ∧ ¬ BadF d 0 ∧ ¬ (Names d).Nodup ∧ c = 7))
  | ok (v : Value) (o : List Fd) (h : e = .returned (.tuple #[v, .int .i64 0])) (hf : FI w' v o) (hb : RowKit.Below w.heap.size w w') (hs : StrictS o) (hp : o.Perm d) (h32 : d.length ≤ 32) (hn : ¬ BadF d 0)
theorem strict_of {S : Array Fd} {d : List Fd} (h : Mg d.toArray 0 d.length S) (ht : ¬ Twc S d.length 1) : StrictS S.toList := by
  have hnd : (Names d).Nodup := Classical.byContradiction fun hn => ht (twc_of h hn)
  have hnS : (Names S.toList).Nodup := (((mg_perm h).map _).nodup_iff).2 hnd
  have hp := mg_pair h
  unfold StrictS
  rw [List.pairwise_iff_getElem] at hp ⊢
  intro i j hi hj hij
  cases e : ltF S.toList[i] S.toList[j] with
  | true => rfl
  | false =>
    have h1 := hp i j hi hj hij
    rw [ltF_eq] at h1 e
    have he := eq_of_not _ _ e h1
    unfold Names at hnS
    have := (List.getElem_inj (xs := S.toList.map (·.1)) (i := i) (j := j) (h₀ := by simpa using hi) (h₁ := by simpa using hj) hnS).1 (by simpa using he)
    omega
theorem pSort_both (v : Value) (d : List Fd) (w : World) (hk : Kinds w) (hv : FI w v d) (hl : d.length ≤ 9223372036854775807) : Calls Tryd.prog 15 #[v] w (Both w d) := by
  refine (pSort_fi v d w hk hv hl).mono fun e w' h => ?_
  rcases h with ⟨h1, h2, h3⟩ | ⟨h1, h2, h3, h4⟩ | ⟨h1, h2, S, hm, ⟨h3, h4, h5⟩ | ⟨h3, u, h4, h5, h6⟩⟩
  · exact .err 4 (by decide) h2 h3 (.inl ⟨h1, rfl⟩)
  · exact .err 6 (by decide) h3 h4 (.inr (.inl ⟨h1, h2, rfl⟩))
  · refine .err 7 (by decide) h4 h5 (.inr (.inr ⟨h1, h2, fun hn => ?_, rfl⟩))
    have hs : d.length = S.size := by rw [hm.perm.1]; simp
    exact no_twc hs ((((mg_perm hm).map _).nodup_iff).2 hn) h3
  · exact .ok u S.toList h4 h5 h6 (strict_of hm h3) (mg_perm hm) h1 h2
theorem refSort_both (v : Value) (d : List Fd) (w : World) (hv : FI w v d) (hl : d.length ≤ 9223372036854775807) (hml : ∀ i (h : i < d.length), (d[i]).1.length ≤ 9223372036854775807) : Calls Tryd.prog 10 #[v] w (Both w d) := by
  rcases Nat.lt_or_ge 32 d.length with h | h
  · exact (refSort_many v d w hv h hl).mono fun e w' ⟨h1, h2⟩ => .err 4 (by decide) h1 (h2 ▸ Below.refl _ _) (.inl ⟨h, rfl⟩)
  · by_cases hb : BadF d 0
    · exact (refSort_bad v d w hv h hb hml).mono fun e w' ⟨h1, h2⟩ => .err 6 (by decide) h1 (h2 ▸ Below.refl _ _) (.inr (.inl ⟨h, hb, rfl⟩))
    · refine (rsort_any v d w hv h (fun i hi => Classical.byContradiction fun hn => hb ⟨i, hi, by omega, hn⟩)).mono fun e w' hp => ?_
      obtain ⟨s1, s2⟩ := rsort_spec d [] List.Pairwise.nil
      cases hr : rsort [] d with
      | none =>
        rw [hr] at hp
        exact .err 7 (by decide) hp.1 hp.2 (.inr (.inr ⟨h, hb, s2 hr, rfl⟩))
      | some o =>
        rw [hr] at hp
        obtain ⟨v', h1, hK⟩ := hp
        obtain ⟨a1, a2⟩ := s1 o hr
        refine .ok v' o h1 ?_ hK.below a1 a2 h hb
        obtain ⟨_, ⟨e, h0⟩ | ⟨g', cap, cur, hv, _⟩⟩ := hK.own
        · exact ⟨none, 0, by rw [e, h0], fun h => by omega⟩
        · subst hv
          obtain ⟨b1, b2, b3, _⟩ := hK.at rfl
          exact ⟨_, cap, rfl, fun _ => ⟨g', 0, rfl, b1, b3⟩⟩

end Go.Proofs.YtfdbjgdafolbmaaDoor

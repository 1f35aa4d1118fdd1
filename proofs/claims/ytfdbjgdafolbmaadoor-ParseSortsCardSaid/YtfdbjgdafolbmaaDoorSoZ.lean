/-
  name says no; the list of choices hands out strings (shared by the texts of JSON and of Sort).
-/
import Derived.Test.YtfdbjgdafolbmaaDoorParR
namespace Go.Proofs.YtfdbjgdafolbmaaDoor
open Go.RowKit Go.Sort Go.Shelf

theorem ne_off {g i j : Nat} (h : i ≠ j) : (⟨g, i, none⟩ : Addr) ≠ ⟨g, j, none⟩ := by intro e; simp only [Addr.mk.injEq] at e; omega
def Bad (l : List UInt8) (k : Nat) : Prop := ∃ i, ∃ h : i < l.length, k ≤ i ∧ Asc.isWord (l[i]).toNat = false ∧ l[i] ≠ 46
theorem not_name {l : List UInt8} (h : ¬ NameOk l) : l = [] ∨ 32 < l.length ∨ (∃ h0 : 0 < l.length, Asc.isLetter (l[0]).toNat = false ∧ l[0] ≠ 95) ∨ Bad l 0 := by
  refine Classical.byContradiction fun hc => h ?_
  have h1 : ¬ l = [] := fun e => hc (.inl e)
  have h2 : ¬ 32 < l.length := fun e => hc (.inr (.inl e))
  have hp : 0 < l.length := by cases l with | nil => exact absurd rfl h1 | cons a b => simp
  refine ⟨hp, by omega, ?_, fun k hk => ?_⟩
  · cases e : Asc.isLetter (l[0]).toNat
    · refine .inr (Classical.byContradiction fun e2 => hc (.inr (.inr (.inl ⟨hp, e, e2⟩))))
    · exact .inl rfl
  · cases e : Asc.isWord (l[k]).toNat
    · refine .inr (Classical.byContradiction fun e2 => hc (.inr (.inr (.inr ⟨k, hk, by omega, e, e2⟩))))
    · exact .inl rfl

set_option maxRecDepth 100000 in
set_option maxHeartbeats 2000000 in
theorem name_bad (l : List UInt8) (w : World) (hk : Kinds w) (hpos : 0 < l.length) (hlen : l.length ≤ 32) (hfirst : Asc.isLetter (l[0]).toNat = true ∨ l[0] = 95) (hall : Bad l 0) :
    Calls Tryd.prog 26 #[.string ⟨l.toArray⟩] w fun e w' => e = .returned (.bool false) ∧ Below w.heap.size w w' := by
  obtain ⟨cap, w2, nb⟩ := conv_bytes w l
  have hr := nb.run
  have NB := Lib.hid nb
  have HK := Lib.hid (hk.below nb.below)
  obtain ⟨c0, ⟨_, hx0⟩, hc0, hb0⟩ := byte_at l 0 hpos
  have HL := Lib.hid (letter_any c0 w hb0 hk)
  have HALL := Lib.hid hall
  have e1 : decide (32 < (l.length : Int)) = false := by simp; omega
  have e2 : (l.isEmpty) = false := by cases l with | nil => simp at hpos | cons a b => rfl
  rw [hc0] at hfirst
  have hfc : Asc.isLetter c0 = true ∨ c0 = 95 := hfirst.imp id (fun e => by rw [← hc0, e]; rfl)
  clear nb hk hall hfirst hc0
  cases hl : Asc.isLetter c0
  · obtain rfl : c0 = 95 := by rcases hfc with h | h; rw [hl] at h; cases h; exact h
    rw [hl] at HL
    clear hl hfc
    go_enter Tryd.func26, Tryd.ntmps26
    go_wp2_with (go_at_call 44; refine HL.out.mono ?_; rintro e w' ⟨rfl, rfl⟩)
    go_loop [26] (fun i => ∃ k : Nat, k ≤ l.length ∧ i = .int .i64 k ∧ Bad l k) (fun i => l.length - (intOf i).toNat)
    case atStart => exact ⟨0, by omega, rfl, HALL.out⟩
    case round =>
      obtain ⟨k, hkl, rfl, hbad⟩ := hrel
      have HBD := Lib.hid hbad
      clear hbad
      by_cases hlt : k < l.length
      · have hcell := NB.out.cells.at k hlt
        rw [Asc.at_of hlt] at hcell
        have hb : (l[k]).toNat < 256 := (l[k]).toNat_lt
        by_cases hgood : Asc.isWord (l[k]).toNat = true ∨ (l[k]).toNat = 46
        · have HNX := Lib.hid (show Bad l (k + 1) by
            obtain ⟨i, hi, h1, h2, h3⟩ := HBD.out
            refine ⟨i, hi, ?_, h2, h3⟩
            rcases Nat.lt_or_ge k i with c | c
            · exact c
            · obtain rfl : i = k := by omega
              rcases hgood with h | h
              · rw [h] at h2; cases h2
              · exact absurd (UInt8.toNat_inj.1 h) h3)
          generalize (l[k]).toNat = c at *
          have HW := Lib.hid (word_any c w2 hb HK.out)
          cases hw : Asc.isWord c
          · obtain rfl : c = 46 := by rcases hgood with h | h; rw [hw] at h; cases h; exact h
            rw [hw] at HW
            clear hw hgood
            go_wp2_with (go_at_call 45; refine HW.out.mono ?_; rintro e w' ⟨rfl, rfl⟩)
            go_round
            case rel => exact ⟨k + 1, by omega, by go_num, HNX.out⟩
            case measure => simp [intOf]; omega
          · rw [hw] at HW
            clear hw hgood
            go_wp2_with (go_at_call 45; refine HW.out.mono ?_; rintro e w' ⟨rfl, rfl⟩)
            go_round
            case rel => exact ⟨k + 1, by omega, by go_num, HNX.out⟩
            case measure => simp [intOf]; omega
        · generalize (l[k]).toNat = c at *
          have HW := Lib.hid (word_any c w2 hb HK.out)
          have hw : Asc.isWord c = false := by
            cases e : Asc.isWord c
            · rfl
            · exact absurd (.inl e) hgood
          have h46 : ((c : Int) != 46) = true := by rw [bne_iff_ne]; exact fun e => hgood (.inr (by omega))
          rw [hw] at HW
          clear hw hgood
          go_wp2_with (go_at_call 45; refine HW.out.mono ?_; rintro e w' ⟨rfl, rfl⟩)
          go_ret
          exact ⟨rfl, NB.out.below⟩
      · obtain ⟨i, hi, h1, _⟩ := HBD.out
        exact absurd (show k < l.length by omega) hlt
  · rw [hl] at HL
    clear hl hfc
    go_enter Tryd.func26, Tryd.ntmps26
    go_wp2_with (go_at_call 44; refine HL.out.mono ?_; rintro e w' ⟨rfl, rfl⟩)
    go_loop [26] (fun i => ∃ k : Nat, k ≤ l.length ∧ i = .int .i64 k ∧ Bad l k) (fun i => l.length - (intOf i).toNat)
    case atStart => exact ⟨0, by omega, rfl, HALL.out⟩
    case round =>
      obtain ⟨k, hkl, rfl, hbad⟩ := hrel
      have HBD := Lib.hid hbad
      clear hbad
      by_cases hlt : k < l.length
      · have hcell := NB.out.cells.at k hlt
        rw [Asc.at_of hlt] at hcell
        have hb : (l[k]).toNat < 256 := (l[k]).toNat_lt
        by_cases hgood : Asc.isWord (l[k]).toNat = true ∨ (l[k]).toNat = 46
        · have HNX := Lib.hid (show Bad l (k + 1) by
            obtain ⟨i, hi, h1, h2, h3⟩ := HBD.out
            refine ⟨i, hi, ?_, h2, h3⟩
            rcases Nat.lt_or_ge k i with c | c
            · exact c
            · obtain rfl : i = k := by omega
              rcases hgood with h | h
              · rw [h] at h2; cases h2
              · exact absurd (UInt8.toNat_inj.1 h) h3)
          generalize (l[k]).toNat = c at *
          have HW := Lib.hid (word_any c w2 hb HK.out)
          cases hw : Asc.isWord c
          · obtain rfl : c = 46 := by rcases hgood with h | h; rw [hw] at h; cases h; exact h
            rw [hw] at HW
            clear hw hgood
            go_wp2_with (go_at_call 45; refine HW.out.mono ?_; rintro e w' ⟨rfl, rfl⟩)
            go_round
            case rel => exact ⟨k + 1, by omega, by go_num, HNX.out⟩
            case measure => simp [intOf]; omega
          · rw [hw] at HW
            clear hw hgood
            go_wp2_with (go_at_call 45; refine HW.out.mono ?_; rintro e w' ⟨rfl, rfl⟩)
            go_round
            case rel => exact ⟨k + 1, by omega, by go_num, HNX.out⟩
            case measure => simp [intOf]; omega
        · generalize (l[k]).toNat = c at *
          have HW := Lib.hid (word_any c w2 hb HK.out)
          have hw : Asc.isWord c = false := by
            cases e : Asc.isWord c
            · rfl
            · exact absurd (.inl e) hgood
          have h46 : ((c : Int) != 46) = true := by rw [bne_iff_ne]; exact fun e => hgood (.inr (by omega))
          rw [hw] at HW
          clear hw hgood
          go_wp2_with (go_at_call 45; refine HW.out.mono ?_; rintro e w' ⟨rfl, rfl⟩)
          go_ret
          exact ⟨rfl, NB.out.below⟩
      · obtain ⟨i, hi, h1, _⟩ := HBD.out
        exact absurd (show k < l.length by omega) hlt

theorem name_no (l : List UInt8) (w : World) (hk : Kinds w) (h : ¬ NameOk l) (hml : l.length ≤ 1000000) :
    Calls Tryd.prog 26 #[.string ⟨l.toArray⟩] w fun e w' => e = .returned (.bool false) ∧ Below w.heap.size w w' := by
  rcases Nat.eq_zero_or_pos l.length with h0 | hpos
  · obtain rfl := List.length_eq_zero_iff.1 h0
    clear h0 h hk
    go_enter Tryd.func26, Tryd.ntmps26
    go_wp2_with fail
    go_ret
    exact ⟨rfl, Below.refl _ _⟩
  · have e2 : (l.isEmpty) = false := by cases l with | nil => simp at hpos | cons a b => rfl
    rcases Nat.lt_or_ge 32 l.length with h32 | h32
    · have e1 : decide (32 < (l.length : Int)) = true := by simp; omega
      clear h hk
      go_enter Tryd.func26, Tryd.ntmps26
      go_wp2_with fail
      go_ret
      exact ⟨rfl, Below.refl _ _⟩
    · have e1 : decide (32 < (l.length : Int)) = false := by simp; omega
      by_cases hf : Asc.isLetter (l[0]).toNat = true ∨ l[0] = 95
      · refine name_bad l w hk hpos h32 hf ?_
        rcases not_name h with h1 | h1 | ⟨_, h1, h2⟩ | h1
        · rw [h1] at hpos; simp at hpos
        · omega
        · rcases hf with h3 | h3
          · rw [h1] at h3; cases h3
          · exact absurd h3 h2
        · exact h1
      · obtain ⟨c0, ⟨_, hx0⟩, hc0, hb0⟩ := byte_at l 0 hpos
        have HL := Lib.hid (letter_any c0 w hb0 hk)
        have hl : Asc.isLetter c0 = false := by
          cases e : Asc.isLetter c0
          · rfl
          · exact absurd (.inl (by rw [hc0]; exact e)) hf
        have h95 : ((c0 : Int) != 95) = true := by
          rw [bne_iff_ne]
          intro e
          exact hf (.inr (UInt8.toNat_inj.1 (hc0.trans (by show c0 = 95; omega))))
        rw [hl] at HL
        clear h hk hf hc0 hl
        go_enter Tryd.func26, Tryd.ntmps26
        go_wp2_with (go_at_call 44; refine HL.out.mono ?_; rintro e w' ⟨rfl, rfl⟩)
        go_ret
        exact ⟨rfl, Below.refl _ _⟩

def BadF (d : List Fd) (k : Nat) : Prop := ∃ i, ∃ h : i < d.length, k ≤ i ∧ ¬ NameOk (d[i]).1

/-! The list of choices hands out strings. -/
def PickP (g : Nat) (W : World) (fs : List (List UInt8)) (e : Ending) (w' : World) : Prop := ∃ x, x ∈ fs ∧ e = .returned (.string ⟨x.toArray⟩) ∧ CodesAt w' g ∧ Apart g W w'
theorem pickF (g : Nat) (W : World) (fs : List (List UInt8)) (hc : CodesAt W g) (h0 : 0 < fs.length) (h1 : fs.length ≤ 1000) :
    Calls Tryd.prog 9 #[.pointer (some ⟨g, 0, none⟩), .slice (some ⟨W.heap.size, 0, none⟩) fs.length fs.length] (W.alloc (.cells (fs.map fun f => Value.string ⟨f.toArray⟩).toArray 9)) (PickP g W fs) := by
  have hb : Below W.heap.size W (W.alloc (.cells (fs.map fun f => Value.string ⟨f.toArray⟩).toArray 9)) := (Below.refl _ W).alloc (Nat.le_refl _) _
  refine (pick_any g W.heap.size fs.length fs _ (hc.below hb) (by have := hc.1; omega) (by simp) (fun i h => ?_) h0 h1).mono fun e w' ⟨k, hk, he, h2, h3⟩ => ⟨fs[k], List.getElem_mem hk, he, h2, (Apart.of_below hb hc.1).trans h3⟩
  simp [go_sem, h]

end Go.Proofs.YtfdbjgdafolbmaaDoor

/-
  name says no; Sort of package parse where a name is wrong, and where one occurs twice.
-/
import Derived.Test.YtfdbjgdafolbmaaDoorJsI
import Derived.Test.YtfdbjgdafolbmaaDoorParR
namespace Go.Proofs.YtfdbjgdafolbmaaDoor
open Go.RowKit Go.Sort Go.Shelf

def Bad (l : List UInt8) (k : Nat) : Prop := ∃ i, ∃ h : i < l.length, k ≤ i ∧ Asc.isWord (l[i]).toNat = false ∧ l[i] ≠ 46
theorem not_name {l : List UInt8} (h : ¬ NameOk l) : l = [] ∨ 32 < l.length ∨ (∃ h0 : 0 < l.length, Asc.isLetter (l[0]).toNat = false ∧ l[0] ≠ 95) ∨ Bad l 0 := by
  refine Classical.byContradiction fun hc => h ?_
  have h1 : ¬ l = [] := fun e => hc (.inl e)
  have h2 : ¬ 32 < l.length := fun e => hc (.inr (.inl e))
  have hp : 0 < l.length := by cases l with | nil => exact absurd rfl h1 | cons a b => simp
  refine ⟨hp, by omega, ?_, fun k hk => ?_⟩
  · cases e : Asc.isLetter (l[0]).toNat
    · refine .inr (Classical.byContradiction fun e2 => hc (.inr (.inr (.inl ⟨hp, e, e2⟩))))
    · exact .inl rfl
  · cases e : Asc.isWord (l[k]).toNat
    · refine .inr (Classical.byContradiction fun e2 => hc (.inr (.inr (.inr ⟨k, hk, by omega, e, e2⟩))))
    · exact .inl rfl

set_option maxRecDepth 100000 in
set_option maxHeartbeats 2000000 in
theorem name_bad (l : List UInt8) (w : World) (hk : Kinds w) (hpos : 0 < l.length) (hlen : l.length ≤ 32) (hfirst : Asc.isLetter (l[0]).toNat = true ∨ l[0] = 95) (hall : Bad l 0) :
    Calls Tryd.prog 26 #[.string ⟨l.toArray⟩] w fun e w' => e = .returned (.bool false) ∧ Below w.heap.size w w' := by
  obtain ⟨cap, w2, nb⟩ := conv_bytes w l
  have hr := nb.run
  have NB := Lib.hid nb
  have HK := Lib.hid (hk.below nb.below)
  obtain ⟨c0, ⟨_, hx0⟩, hc0, hb0⟩ := byte_at l 0 hpos
  have HL := Lib.hid (letter_any c0 w hb0 hk)
  have HALL := Lib.hid hall
  have e1 : decide (32 < (l.length : Int)) = false := by simp; omega
  have e2 : (l.isEmpty) = false := by cases l with | nil => simp at hpos | cons a b => rfl
  rw [hc0] at hfirst
  have hfc : Asc.isLetter c0 = true ∨ c0 = 95 := hfirst.imp id (fun e => by rw [← hc0, e]; rfl)
  clear nb hk hall hfirst hc0
  cases hl : Asc.isLetter c0
  · obtain rfl : c0 = 95 := by rcases hfc with h | h; rw [hl] at h; cases h; exact h
    rw [hl] at HL
    clear hl hfc
    go_enter Tryd.func26, Tryd.ntmps26
    go_wp2_with (go_at_call 44; refine HL.out.mono ?_; rintro e w' ⟨rfl, rfl⟩)
    go_loop [26] (fun i => ∃ k : Nat, k ≤ l.length ∧ i = .int .i64 k ∧ Bad l k) (fun i => l.length - (intOf i).toNat)
    case atStart => exact ⟨0, by omega, rfl, HALL.out⟩
    case round =>
      obtain ⟨k, hkl, rfl, hbad⟩ := hrel
      have HBD := Lib.hid hbad
      clear hbad
      by_cases hlt : k < l.length
      · have hcell := NB.out.cells.at k hlt
        rw [Asc.at_of hlt] at hcell
        have hb : (l[k]).toNat < 256 := (l[k]).toNat_lt
        by_cases hgood : Asc.isWord (l[k]).toNat = true ∨ (l[k]).toNat = 46
        · have HNX := Lib.hid (show Bad l (k + 1) by
            obtain ⟨i, hi, h1, h2, h3⟩ := HBD.out
            refine ⟨i, hi, ?_, h2, h3⟩
            rcases Nat.lt_or_ge k i with c | c
            · exact c
            · obtain rfl : i = k := by omega
              rcases hgood with h | h
              · rw [h] at h2; cases h2
              · exact absurd (UInt8.toNat_inj.1 h) h3)
          generalize (l[k]).toNat = c at *
          have HW := Lib.hid (word_any c w2 hb HK.out)
          cases hw : Asc.isWord c
          · obtain rfl : c = 46 := by rcases hgood with h | h; rw [hw] at h; cases h; exact h
            rw [hw] at HW
            clear hw hgood
            go_wp2_with (go_at_call 45; refine HW.out.mono ?_; rintro e w' ⟨rfl, rfl⟩)
            go_round
            case rel => exact ⟨k + 1, by omega, by go_num, HNX.out⟩
            case measure => simp [intOf]; omega
          · rw [hw] at HW
            clear hw hgood
            go_wp2_with (go_at_call 45; refine HW.out.mono ?_; rintro e w' ⟨rfl, rfl⟩)
            go_round
            case rel => exact ⟨k + 1, by omega, by go_num, HNX.out⟩
            case measure => simp [intOf]; omega
        · generalize (l[k]).toNat = c at *
          have HW := Lib.hid (word_any c w2 hb HK.out)
          have hw : Asc.isWord c = false := by
            cases e : Asc.isWord c
            · rfl
            · exact absurd (.inl e) hgood
          have h46 : ((c : Int) != 46) = true := by rw [bne_iff_ne]; exact fun e => hgood (.inr (by omega))
          rw [hw] at HW
          clear hw hgood
          go_wp2_with (go_at_call 45; refine HW.out.mono ?_; rintro e w' ⟨rfl, rfl⟩)
          go_ret
          exact ⟨rfl, NB.out.below⟩
      · obtain ⟨i, hi, h1, _⟩ := HBD.out
        exact absurd (show k < l.length by omega) hlt
  · rw [hl] at HL
    clear hl hfc
    go_enter Tryd.func26, Tryd.ntmps26
    go_wp2_with (go_at_call 44; refine HL.out.mono ?_; rintro e w' ⟨rfl, rfl⟩)
    go_loop [26] (fun i => ∃ k : Nat, k ≤ l.length ∧ i = .int .i64 k ∧ Bad l k) (fun i => l.length - (intOf i).toNat)
    case atStart => exact ⟨0, by omega, rfl, HALL.out⟩
    case round =>
      obtain ⟨k, hkl, rfl, hbad⟩ := hrel
      have HBD := Lib.hid hbad
      clear hbad
      by_cases hlt : k < l.length
      · have hcell := NB.out.cells.at k hlt
        rw [Asc.at_of hlt] at hcell
        have hb : (l[k]).toNat < 256 := (l[k]).toNat_lt
        by_cases hgood : Asc.isWord (l[k]).toNat = true ∨ (l[k]).toNat = 46
        · have HNX := Lib.hid (show Bad l (k + 1) by
            obtain ⟨i, hi, h1, h2, h3⟩ := HBD.out
            refine ⟨i, hi, ?_, h2, h3⟩
            rcases Nat.lt_or_ge k i with c | c
            · exact c
            · obtain rfl : i = k := by omega
              rcases hgood with h | h
              · rw [h] at h2; cases h2
              · exact absurd (UInt8.toNat_inj.1 h) h3)
          generalize (l[k]).toNat = c at *
          have HW := Lib.hid (word_any c w2 hb HK.out)
          cases hw : Asc.isWord c
          · obtain rfl : c = 46 := by rcases hgood with h | h; rw [hw] at h; cases h; exact h
            rw [hw] at HW
            clear hw hgood
            go_wp2_with (go_at_call 45; refine HW.out.mono ?_; rintro e w' ⟨rfl, rfl⟩)
            go_round
            case rel => exact ⟨k + 1, by omega, by go_num, HNX.out⟩
            case measure => simp [intOf]; omega
          · rw [hw] at HW
            clear hw hgood
            go_wp2_with (go_at_call 45; refine HW.out.mono ?_; rintro e w' ⟨rfl, rfl⟩)
            go_round
            case rel => exact ⟨k + 1, by omega, by go_num, HNX.out⟩
            case measure => simp [intOf]; omega
        · generalize (l[k]).toNat = c at *
          have HW := Lib.hid (word_any c w2 hb HK.out)
          have hw : Asc.isWord c = false := by
            cases e : Asc.isWord c
            · rfl
            · exact absurd (.inl e) hgood
          have h46 : ((c : Int) != 46) = true := by rw [bne_iff_ne]; exact fun e => hgood (.inr (by omega))
          rw [hw] at HW
          clear hw hgood
          go_wp2_with (go_at_call 45; refine HW.out.mono ?_; rintro e w' ⟨rfl, rfl⟩)
          go_ret
          exact ⟨rfl, NB.out.below⟩
      · obtain ⟨i, hi, h1, _⟩ := HBD.out
        exact absurd (show k < l.length by omega) hlt

theorem name_no (l : List UInt8) (w : World) (hk : Kinds w) (h : ¬ NameOk l) (hml : l.length ≤ 1000000) :
    Calls Tryd.prog 26 #[.string ⟨l.toArray⟩] w fun e w' => e = .returned (.bool false) ∧ Below w.heap.size w w' := by
  rcases Nat.eq_zero_or_pos l.length with h0 | hpos
  · obtain rfl := List.length_eq_zero_iff.1 h0
    clear h0 h hk
    go_enter Tryd.func26, Tryd.ntmps26
    go_wp2_with fail
    go_ret
    exact ⟨rfl, Below.refl _ _⟩
  · have e2 : (l.isEmpty) = false := by cases l with | nil => simp at hpos | cons a b => rfl
    rcases Nat.lt_or_ge 32 l.length with h32 | h32
    · have e1 : decide (32 < (l.length : Int)) = true := by simp; omega
      clear h hk
      go_enter Tryd.func26, Tryd.ntmps26
      go_wp2_with fail
      go_ret
      exact ⟨rfl, Below.refl _ _⟩
    · have e1 : decide (32 < (l.length : Int)) = false := by simp; omega
      by_cases hf : Asc.isLetter (l[0]).toNat = true ∨ l[0] = 95
      · refine name_bad l w hk hpos h32 hf ?_
        rcases not_name h with h1 | h1 | ⟨_, h1, h2⟩ | h1
        · rw [h1] at hpos; simp at hpos
        · omega
        · rcases hf with h3 | h3
          · rw [h1] at h3; cases h3
          · exact absurd h3 h2
        · exact h1
      · obtain ⟨c0, ⟨_, hx0⟩, hc0, hb0⟩ := byte_at l 0 hpos
        have HL := Lib.hid (letter_any c0 w hb0 hk)
        have hl : Asc.isLetter c0 = false := by
          cases e : Asc.isLetter c0
          · rfl
          · exact absurd (.inl (by rw [hc0]; exact e)) hf
        have h95 : ((c0 : Int) != 95) = true := by
          rw [bne_iff_ne]
          intro e
          exact hf (.inr (UInt8.toNat_inj.1 (hc0.trans (by show c0 = 95; omega))))
        rw [hl] at HL
        clear h hk hf hc0 hl
        go_enter Tryd.func26, Tryd.ntmps26
        go_wp2_with (go_at_call 44; refine HL.out.mono ?_; rintro e w' ⟨rfl, rfl⟩)
        go_ret
        exact ⟨rfl, Below.refl _ _⟩

def BadF (d : List Fd) (k : Nat) : Prop := ∃ i, ∃ h : i < d.length, k ≤ i ∧ ¬ NameOk (d[i]).1
set_option maxRecDepth 100000 in
set_option maxHeartbeats 1000000 in
theorem sort_6 (g cap : Nat) (d : List Fd) (w : World) (hk : Kinds w) (hg : g < w.heap.size) (hc : ∀ j u, (cellsF d)[j]? = some u → w.cell? ⟨g, j, none⟩ = some u) (h32 : d.length ≤ 32) (hbad : BadF d 0) (hml : ∀ i (h : i < d.length), (d[i]).1.length ≤ 1000000) :
    Calls Tryd.prog 15 #[.slice (some ⟨g, 0, none⟩) d.length cap] w fun e w' => e = .returned (.tuple #[.slice none 0 0, .int .i64 6]) ∧ Below w.heap.size w w' := by
  have HC := Lib.hid hc
  have HK := Lib.hid hk
  have HM := Lib.hid hml
  have HB0 := Lib.hid hbad
  clear hc hk hbad hml
  have t1 : decide (32 < (d.length : Int)) = false := by simp; omega
  go_enter Tryd.func15, Tryd.ntmps15
  go_wp2_with fail
  go_loopw [12] (fun i wr => ∃ k : Nat, k ≤ d.length ∧ i = .int .i64 k ∧ Below w.heap.size w wr ∧ BadF d k) (fun i _ => d.length - (intOf i).toNat)
  case atStart => exact ⟨0, by omega, rfl, Below.refl _ _, HB0.out⟩
  case round =>
    obtain ⟨k, hkl, rfl, hb, hbad⟩ := hrel
    have HBD := Lib.hid hbad
    clear hbad HB0
    by_cases hlt : k < d.length
    · have c0 : wr.cell? ⟨g, k * 2, none⟩ = some (.string ⟨(d[k]).1.toArray⟩) := (hb.cell (p := ⟨g, k * 2, none⟩) hg).trans (HC.out (k * 2) _ ((cellsF_at d k 0 hlt (by omega)).trans rfl))
      have c1 : wr.cell? ⟨g, k * 2 + 1, none⟩ = some (.string ⟨(d[k]).2.toArray⟩) := (hb.cell (p := ⟨g, k * 2 + 1, none⟩) hg).trans (HC.out (k * 2 + 1) _ ((cellsF_at d k 1 hlt (by omega)).trans rfl))
      have hsz := hb.size
      by_cases hok : NameOk (d[k]).1
      · have HY := Lib.hid fun W (h : Below w.heap.size w W) => name_yes (d[k]).1 W (HK.out.below h) hok
        have HNX := Lib.hid (show BadF d (k + 1) by
          obtain ⟨i, hi, h1, h2⟩ := HBD.out
          refine ⟨i, hi, ?_, h2⟩
          rcases Nat.lt_or_ge k i with c | c
          · exact c
          · obtain rfl : i = k := by omega
            exact absurd hok h2)
        clear hok
        generalize d[k] = x at *
        obtain ⟨nm, vl⟩ := x
        go_wp2_with fail
        refine (HY.out _ (hb.alloc hsz _)).mono ?_
        rintro e w1 ⟨rfl, hb1⟩
        have hb2 : Below w.heap.size w w1 := (hb.alloc hsz _).trans (hb1.mono (by simp; omega))
        go_wp2_with fail
        go_roundw
        case rel => exact ⟨k + 1, by omega, by go_num, hb2, HNX.out⟩
        case measure => simp [intOf]; omega
      · have HY := Lib.hid fun W (h : Below w.heap.size w W) => name_no (d[k]).1 W (HK.out.below h) hok (HM.out k hlt)
        clear hok
        generalize d[k] = x at *
        obtain ⟨nm, vl⟩ := x
        go_wp2_with fail
        refine (HY.out _ (hb.alloc hsz _)).mono ?_
        rintro e w1 ⟨rfl, hb1⟩
        have hb2 : Below w.heap.size w w1 := (hb.alloc hsz _).trans (hb1.mono (by simp; omega))
        go_wp2_with fail
        go_ret2
        exact ⟨rfl, hb2⟩
    · obtain ⟨i, hi, h1, _⟩ := HBD.out
      exact absurd (show k < d.length by omega) hlt

def TwiceF (d : List Fd) (k : Nat) : Prop := ∃ i, k ≤ i ∧ 1 ≤ i ∧ i < d.length ∧ ((sortF d.toArray)[i]!).1 = ((sortF d.toArray)[i - 1]!).1
set_option maxRecDepth 100000 in
set_option maxHeartbeats 1000000 in
theorem sort_7 (g cap : Nat) (d : List Fd) (w : World) (hk : Kinds w) (hg : g < w.heap.size) (hc : ∀ j u, (cellsF d)[j]? = some u → w.cell? ⟨g, j, none⟩ = some u) (h1 : 0 < d.length) (h19 : d.length ≤ 19) (hn : ∀ i (h : i < d.length), NameOk (d[i]).1)
    (hdist : TwiceF d 1) (hsz : (sortF d.toArray).size = d.length) :
    Calls Tryd.prog 15 #[.slice (some ⟨g, 0, none⟩) d.length cap] w fun e w' => e = .returned (.tuple #[.slice none 0 0, .int .i64 7]) ∧ Below w.heap.size w w' := by
  have HC := Lib.hid hc
  have HN := Lib.hid hn
  have HK := Lib.hid hk
  have HD := Lib.hid hdist
  have HZ := Lib.hid hsz
  clear hc hn hk hdist hsz
  have t1 : decide (32 < (d.length : Int)) = false := by simp; omega
  go_enter Tryd.func15, Tryd.ntmps15
  go_wp2_with fail
  go_loopw [12] (fun i wr => ∃ k : Nat, k ≤ d.length ∧ i = .int .i64 k ∧ Below w.heap.size w wr) (fun i _ => d.length - (intOf i).toNat)
  case atStart => exact ⟨0, by omega, rfl, Below.refl _ _⟩
  case round =>
    obtain ⟨k, hkl, rfl, hb⟩ := hrel
    by_cases hlt : k < d.length
    · have c0 : wr.cell? ⟨g, k * 2, none⟩ = some (.string ⟨(d[k]).1.toArray⟩) := (hb.cell (p := ⟨g, k * 2, none⟩) hg).trans (HC.out (k * 2) _ ((cellsF_at d k 0 hlt (by omega)).trans rfl))
      have c1 : wr.cell? ⟨g, k * 2 + 1, none⟩ = some (.string ⟨(d[k]).2.toArray⟩) := (hb.cell (p := ⟨g, k * 2 + 1, none⟩) hg).trans (HC.out (k * 2 + 1) _ ((cellsF_at d k 1 hlt (by omega)).trans rfl))
      have HY := Lib.hid fun W (h : Below w.heap.size w W) => name_yes (d[k]).1 W (HK.out.below h) (HN.out k hlt)
      have hsz := hb.size
      generalize d[k] = x at *
      obtain ⟨nm, vl⟩ := x
      go_wp2_with fail
      refine (HY.out _ (hb.alloc hsz _)).mono ?_
      rintro e w1 ⟨rfl, hb1⟩
      have hb2 : Below w.heap.size w w1 := (hb.alloc hsz _).trans (hb1.mono (by simp; omega))
      go_wp2_with fail
      go_roundw
      case rel => exact ⟨k + 1, by omega, by go_num, hb2⟩
      case measure => simp [intOf]; omega
    · go_wp2_with fail
      refine (clone_any g 0 cap d wr h1 (by omega) (fun j u hj => by rw [Nat.zero_add]; exact (hb.cell (p := ⟨g, j, none⟩) hg).trans (HC.out j u hj))).mono ?_
      rintro e w1 ⟨g', c', rfl, hown, hb1⟩
      obtain ⟨hg1, hgB, hcl, hfr⟩ := cells_ownF hown
      have hH := holdsK_of hcl hfr
      have HS := Lib.hid (sort_any g' 0 c' d.toArray w1 hH hg1 (by simpa using h19))
      rw [show d.toArray.size = d.length by simp] at HS
      have HH := Lib.hid hH
      clear hcl hfr hown hH
      go_wp2_with fail
      refine HS.out.mono ?_
      rintro e w2 ⟨rfl, m, os, rfl⟩
      have HW := Lib.hid (sortW_cells (n := m) (os := os) HH.out hg1 HZ.out)
      have hb3 : Below w.heap.size w (sortWorldK encF 2 w1 g' 0 m (sortF d.toArray) os) := below_sortW (hb.trans (hb1.mono hb.size)) (Nat.le_trans hb.size hgB) (Nat.le_trans hb.size hb1.size)
      generalize sortWorldK encF 2 w1 g' 0 m (sortF d.toArray) os = w2 at *
      clear HS HH
      go_wp2_with fail
      go_loopw [6] (fun i wr2 => ∃ k2 q : Nat, 1 ≤ k2 ∧ k2 ≤ d.length ∧ i = .int .i64 k2 ∧ wr2 = w2.drewN q ∧ TwiceF d k2) (fun i _ => d.length - (intOf i).toNat)
      case atStart => exact ⟨1, 0, by omega, by omega, rfl, rfl, HD.out⟩
      case round =>
        obtain ⟨k2, q, hk1, hk2, rfl, rfl, htw⟩ := hrel
        have HTW := Lib.hid htw
        clear htw
        by_cases hlt2 : k2 < d.length
        · obtain ⟨k3, rfl⟩ : ∃ k3, k2 = k3 + 1 := ⟨k2 - 1, by omega⟩
          have a1 : (w2.drewN q).cell? ⟨g', (k3 + 1) * 2, none⟩ = some (.string ⟨((sortF d.toArray)[k3 + 1]!).1.toArray⟩) := (HW.out (k3 + 1) (by rw [HZ.out]; omega)).1
          have a2 : (w2.drewN q).cell? ⟨g', k3 * 2, none⟩ = some (.string ⟨((sortF d.toArray)[k3]!).1.toArray⟩) := (HW.out k3 (by rw [HZ.out]; omega)).1
          by_cases hne : ((sortF d.toArray)[k3 + 1]!).1 = ((sortF d.toArray)[k3]!).1
          · rw [hne] at a1
            clear hne
            generalize ((sortF d.toArray)[k3]!).1 = n2 at *
            generalize hWq : w2.drewN q = W at *
            go_wp2_with fail
            go_quiet (fail)
            go_wp2_with fail
            go_ret2
            exact ⟨rfl, by rw [← hWq, World.drewN_drewN]; exact below_drewN hb3 _⟩
          · have HNX := Lib.hid (show TwiceF d (k3 + 2) by
              obtain ⟨i, h1, h2, h3, h4⟩ := HTW.out
              refine ⟨i, ?_, h2, h3, h4⟩
              rcases Nat.lt_or_ge (k3 + 1) i with c | c
              · exact c
              · obtain rfl : i = k3 + 1 := by omega
                exact absurd h4 hne)
            have hne : (((sortF d.toArray)[k3 + 1]!).1 == ((sortF d.toArray)[k3]!).1) = false := beq_eq_false_iff_ne.2 hne
            generalize ((sortF d.toArray)[k3 + 1]!).1 = n1 at *
            generalize ((sortF d.toArray)[k3]!).1 = n2 at *
            generalize hWq : w2.drewN q = W at *
            go_wp2_with fail
            go_quiet (fail)
            go_wp2_with fail
            go_roundw
            case rel => exact ⟨k3 + 2, _, by omega, by omega, by go_num, by rw [← hWq, World.drewN_drewN], HNX.out⟩
            case measure => simp [intOf]; omega
        · obtain ⟨i, h1, _, h3, _⟩ := HTW.out
          exact absurd (show k2 < d.length by omega) hlt2

end Go.Proofs.YtfdbjgdafolbmaaDoor

/-
  name of package parse, where it says yes.
-/
import Derived.Test.YtfdbjgdafolbmaaDoorParE
import Derived.Test.YtfdbjgdafolbmaaDoorKinds
namespace Go.Proofs.YtfdbjgdafolbmaaDoor
open Go.RowKit

/-- The name of a field. -/
structure NameOk (l : List UInt8) : Prop where
  pos : 0 < l.length
  len : l.length ≤ 32
  first : Asc.isLetter (l[0]).toNat = true ∨ l[0] = 95
  all : ∀ k (h : k < l.length), Asc.isWord (l[k]).toNat = true ∨ l[k] = 46

set_option maxRecDepth 100000 in
set_option maxHeartbeats 2000000 in
theorem name_yes (l : List UInt8) (w : World) (hk : Kinds w) (h : NameOk l) :
    Calls Tryd.prog 26 #[.string ⟨l.toArray⟩] w fun e w' => e = .returned (.bool true) ∧ Below w.heap.size w w' := by
  obtain ⟨cap, w2, nb⟩ := conv_bytes w l
  have hr := nb.run
  have NB := Lib.hid nb
  have HK := Lib.hid (hk.below nb.below)
  have hpos := h.pos
  have hlen := h.len
  obtain ⟨c0, ⟨_, hx0⟩, hc0, hb0⟩ := byte_at l 0 hpos
  have HL := Lib.hid (letter_any c0 w hb0 hk)
  have hfirst := h.first
  have HALL := Lib.hid h.all
  have e1 : decide (32 < (l.length : Int)) = false := by simp; omega
  have e2 : (l.isEmpty) = false := by cases l with | nil => simp at hpos | cons a b => rfl
  rw [hc0] at hfirst
  have hfc : Asc.isLetter c0 = true ∨ c0 = 95 := hfirst.imp id (fun e => by rw [← hc0, e]; rfl)
  clear nb hk h hfirst hc0
  cases hl : Asc.isLetter c0
  · obtain rfl : c0 = 95 := by rcases hfc with h | h; rw [hl] at h; cases h; exact h
    rw [hl] at HL
    clear hl hfc
    go_enter Tryd.func26, Tryd.ntmps26
    go_wp2_with (go_at_call 44; refine HL.out.mono ?_; rintro e w' ⟨rfl, rfl⟩)
    go_loop [26] (fun i => ∃ k : Nat, k ≤ l.length ∧ i = .int .i64 k) (fun i => l.length - (intOf i).toNat)
    case atStart => exact ⟨0, by omega, rfl⟩
    case round =>
      obtain ⟨k, hkl, rfl⟩ := hrel
      by_cases hlt : k < l.length
      · have hcell := NB.out.cells.at k hlt
        rw [Asc.at_of hlt] at hcell
        have ha := HALL.out k hlt
        have hb : (l[k]).toNat < 256 := (l[k]).toNat_lt
        have hc : Asc.isWord (l[k]).toNat = true ∨ (l[k]).toNat = 46 := ha.imp id (fun e => by rw [e]; rfl)
        clear ha
        generalize (l[k]).toNat = c at *
        have HW := Lib.hid (word_any c w2 hb HK.out)
        cases hw : Asc.isWord c
        · obtain rfl : c = 46 := by rcases hc with h | h; rw [hw] at h; cases h; exact h
          rw [hw] at HW
          clear hw hc
          go_wp2_with (go_at_call 45; refine HW.out.mono ?_; rintro e w' ⟨rfl, rfl⟩)
          go_round
          case rel => exact ⟨k + 1, by omega, by go_num⟩
          case measure => simp [intOf]; omega
        · rw [hw] at HW
          clear hw hc
          go_wp2_with (go_at_call 45; refine HW.out.mono ?_; rintro e w' ⟨rfl, rfl⟩)
          go_round
          case rel => exact ⟨k + 1, by omega, by go_num⟩
          case measure => simp [intOf]; omega
      · go_wp2_with fail
        go_ret
        exact ⟨rfl, NB.out.below⟩
  · rw [hl] at HL
    clear hl hfc
    go_enter Tryd.func26, Tryd.ntmps26
    go_wp2_with (go_at_call 44; refine HL.out.mono ?_; rintro e w' ⟨rfl, rfl⟩)
    go_loop [26] (fun i => ∃ k : Nat, k ≤ l.length ∧ i = .int .i64 k) (fun i => l.length - (intOf i).toNat)
    case atStart => exact ⟨0, by omega, rfl⟩
    case round =>
      obtain ⟨k, hkl, rfl⟩ := hrel
      by_cases hlt : k < l.length
      · have hcell := NB.out.cells.at k hlt
        rw [Asc.at_of hlt] at hcell
        have ha := HALL.out k hlt
        have hb : (l[k]).toNat < 256 := (l[k]).toNat_lt
        have hc : Asc.isWord (l[k]).toNat = true ∨ (l[k]).toNat = 46 := ha.imp id (fun e => by rw [e]; rfl)
        clear ha
        generalize (l[k]).toNat = c at *
        have HW := Lib.hid (word_any c w2 hb HK.out)
        cases hw : Asc.isWord c
        · obtain rfl : c = 46 := by rcases hc with h | h; rw [hw] at h; cases h; exact h
          rw [hw] at HW
          clear hw hc
          go_wp2_with (go_at_call 45; refine HW.out.mono ?_; rintro e w' ⟨rfl, rfl⟩)
          go_round
          case rel => exact ⟨k + 1, by omega, by go_num⟩
          case measure => simp [intOf]; omega
        · rw [hw] at HW
          clear hw hc
          go_wp2_with (go_at_call 45; refine HW.out.mono ?_; rintro e w' ⟨rfl, rfl⟩)
          go_round
          case rel => exact ⟨k + 1, by omega, by go_num⟩
          case measure => simp [intOf]; omega
      · go_wp2_with fail
        go_ret
        exact ⟨rfl, NB.out.below⟩

end Go.Proofs.YtfdbjgdafolbmaaDoor

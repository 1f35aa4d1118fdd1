/-
  Escaped values are read back; FieldName and Same of the reference.
-/
import Derived.Test.YtfdbjgdafolbmaaDoorParM
namespace Go.Proofs.YtfdbjgdafolbmaaDoor
open Go.RowKit

namespace Asc
/-- A value with a backslash ahead of each quotation mark and backslash. -/
def esc : List UInt8 → List UInt8
  | [] => []
  | c :: l => if c = 34 ∨ c = 92 then 92 :: c :: esc l else c :: esc l
theorem esc_snoc (x : List UInt8) (c : UInt8) : esc (x ++ [c]) = esc x ++ (if c = 34 ∨ c = 92 then [92, c] else [c]) := by
  induction x with
  | nil => simp only [List.nil_append, esc]
  | cons d x ih => rw [List.cons_append, esc, esc, ih]; split <;> simp
theorem esc_len (x : List UInt8) : (esc x).length ≤ 2 * x.length := by
  induction x with
  | nil => simp [esc]
  | cons c x ih => unfold esc; split <;> simp <;> omega
theorem qd_esc (x : List UInt8) : ∀ (r acc : List UInt8), qd (esc x ++ 34 :: r) acc = some (acc ++ x, r) := by
  induction x with
  | nil =>
    intro r acc
    have h := qd_q (l := 34 :: r) (k := 0) (by simp) rfl acc
    simpa [esc] using h
  | cons c x ih =>
    intro r acc
    rw [esc]
    split
    · rename_i hc
      have h := qd_b (l := 92 :: c :: (esc x ++ 34 :: r)) (k := 0) (by simp) rfl (by simpa using hc) acc
      simp only [List.drop_zero, List.cons_append, List.drop_succ_cons, List.getElem_cons_succ, List.getElem_cons_zero] at h ⊢
      rw [h, ih]
      simp
    · rename_i hc
      have h := qd_o (l := c :: (esc x ++ 34 :: r)) (k := 0) (by simp) (by simp; exact fun e => hc (.inl e)) (by simp; exact fun e => hc (.inr e)) acc
      simp only [List.drop_zero, List.cons_append, List.drop_succ_cons, List.getElem_cons_zero] at h ⊢
      rw [h, ih]
      simp
end Asc

set_option maxHeartbeats 1000000 in
theorem fieldName_yes (l : List UInt8) (w : World) (h : NameOk l) :
    Calls Tryd.prog 22 #[.string ⟨l.toArray⟩] w fun e w' => e = .returned (.bool true) ∧ w = w' := by
  have hpos := h.pos
  have hlen := h.len
  obtain ⟨c0, ⟨_, hx0⟩, hc0, hb0⟩ := byte_at l 0 hpos
  have HL := Lib.hid (rletter_any c0 w hb0)
  have hfirst := h.first
  have HALL := Lib.hid h.all
  have e1 : decide (32 < (l.length : Int)) = false := decide_eq_false (by omega)
  have e2 : decide ((l.length : Int) < 1) = false := decide_eq_false (by omega)
  rw [hc0] at hfirst
  have hfc : Asc.isLetter c0 = true ∨ c0 = 95 := hfirst.imp id (fun e => by rw [← hc0, e]; rfl)
  clear h hfirst hc0
  cases hl : Asc.isLetter c0
  · obtain rfl : c0 = 95 := by rcases hfc with h | h; rw [hl] at h; cases h; exact h
    rw [hl] at HL
    clear hl hfc
    go_enter Tryd.func22, Tryd.ntmps22
    go_wp2_with (go_at_call 35; refine HL.out.mono ?_; rintro e w' ⟨rfl, rfl⟩)
    go_loop [3] (fun i => ∃ k : Nat, k ≤ l.length ∧ i = .int .i64 k) (fun i => l.length - (intOf i).toNat)
    case atStart => exact ⟨0, by omega, rfl⟩
    case round =>
      obtain ⟨k, hkl, rfl⟩ := hrel
      by_cases hlt : k < l.length
      · obtain ⟨c, ⟨_, hy⟩, hcc, hcb⟩ := byte_at l k hlt
        have ha := HALL.out k hlt
        have hc : Asc.isWord c = true ∨ c = 46 := by
          rw [hcc] at ha
          exact ha.imp id (fun e => by rw [← hcc, e]; rfl)
        clear ha hcc
        have HW := Lib.hid (rword_any c w hcb)
        cases hw : Asc.isWord c
        · obtain rfl : c = 46 := by rcases hc with h | h; rw [hw] at h; cases h; exact h
          rw [hw] at HW
          clear hw hc
          go_wp2_with (go_at_call 36; refine HW.out.mono ?_; rintro e w' ⟨rfl, rfl⟩)
          go_round
          case rel => exact ⟨k + 1, by omega, by go_num⟩
          case measure => simp [intOf]; omega
        · rw [hw] at HW
          clear hw hc
          go_wp2_with (go_at_call 36; refine HW.out.mono ?_; rintro e w' ⟨rfl, rfl⟩)
          go_round
          case rel => exact ⟨k + 1, by omega, by go_num⟩
          case measure => simp [intOf]; omega
      · go_wp2_with fail
        go_ret
        exact ⟨rfl, rfl⟩
  · rw [hl] at HL
    clear hl hfc
    go_enter Tryd.func22, Tryd.ntmps22
    go_wp2_with (go_at_call 35; refine HL.out.mono ?_; rintro e w' ⟨rfl, rfl⟩)
    go_loop [3] (fun i => ∃ k : Nat, k ≤ l.length ∧ i = .int .i64 k) (fun i => l.length - (intOf i).toNat)
    case atStart => exact ⟨0, by omega, rfl⟩
    case round =>
      obtain ⟨k, hkl, rfl⟩ := hrel
      by_cases hlt : k < l.length
      · obtain ⟨c, ⟨_, hy⟩, hcc, hcb⟩ := byte_at l k hlt
        have ha := HALL.out k hlt
        have hc : Asc.isWord c = true ∨ c = 46 := by
          rw [hcc] at ha
          exact ha.imp id (fun e => by rw [← hcc, e]; rfl)
        clear ha hcc
        have HW := Lib.hid (rword_any c w hcb)
        cases hw : Asc.isWord c
        · obtain rfl : c = 46 := by rcases hc with h | h; rw [hw] at h; cases h; exact h
          rw [hw] at HW
          clear hw hc
          go_wp2_with (go_at_call 36; refine HW.out.mono ?_; rintro e w' ⟨rfl, rfl⟩)
          go_round
          case rel => exact ⟨k + 1, by omega, by go_num⟩
          case measure => simp [intOf]; omega
        · rw [hw] at HW
          clear hw hc
          go_wp2_with (go_at_call 36; refine HW.out.mono ?_; rintro e w' ⟨rfl, rfl⟩)
          go_round
          case rel => exact ⟨k + 1, by omega, by go_num⟩
          case measure => simp [intOf]; omega
      · go_wp2_with fail
        go_ret
        exact ⟨rfl, rfl⟩

/-- Fields that lie at a block. -/
def FAt (w : World) (g off : Nat) (d : List Fd) : Prop := ∀ i (h : i < d.length), w.cell? ⟨g, off + i * 2, none⟩ = some (.string ⟨(d[i]).1.toArray⟩) ∧ w.cell? ⟨g, off + i * 2 + 1, none⟩ = some (.string ⟨(d[i]).2.toArray⟩)

theorem sameF_any (g g2 cap cap2 : Nat) (d : List Fd) (w : World) (ha : FAt w g 0 d) (hb : FAt w g2 0 d) (hl : d.length ≤ 1000) :
    Calls Tryd.prog 12 #[.slice (some ⟨g, 0, none⟩) d.length cap, .slice (some ⟨g2, 0, none⟩) d.length cap2] w fun e w' => e = .returned (.bool true) ∧ Below w.heap.size w w' := by
  have HA := Lib.hid ha
  have HB := Lib.hid hb
  clear ha hb
  go_enter Tryd.func12, Tryd.ntmps12
  go_wp2_with fail
  go_loopw [5] (fun i wr => ∃ k q : Nat, k ≤ d.length ∧ i = .int .i64 k ∧ wr = w.drewN q) (fun i _ => d.length - (intOf i).toNat)
  case atStart => exact ⟨0, 0, by omega, rfl, rfl⟩
  case round =>
    obtain ⟨k, q, hk, rfl, rfl⟩ := hrel
    by_cases hlt : k < d.length
    · obtain ⟨a1, a2⟩ := HA.out k hlt
      obtain ⟨b1, b2⟩ := HB.out k hlt
      rw [Nat.zero_add] at a1 a2 b1 b2
      have c1 : (w.drewN q).cell? ⟨g, k * 2, none⟩ = some (.string ⟨(d[k]).1.toArray⟩) := a1
      have c2 : (w.drewN q).cell? ⟨g, k * 2 + 1, none⟩ = some (.string ⟨(d[k]).2.toArray⟩) := a2
      have c3 : (w.drewN q).cell? ⟨g2, k * 2, none⟩ = some (.string ⟨(d[k]).1.toArray⟩) := b1
      have c4 : (w.drewN q).cell? ⟨g2, k * 2 + 1, none⟩ = some (.string ⟨(d[k]).2.toArray⟩) := b2
      have i1 : (k : Int) < (d.length : Int) := by omega
      have i2 : (0 : Int) ≤ (k : Int) := by omega
      clear a1 a2 b1 b2
      generalize (d[k]).1 = x at *
      generalize (d[k]).2 = y at *
      generalize hW : w.drewN q = W at *
      go_wp2_with fail
      go_quiet (fail)
      go_wp2_with fail
      go_roundw
      case rel => exact ⟨k + 1, _, by omega, by go_num, by rw [← hW, World.drewN_drewN]⟩
      case measure => simp [intOf]; omega
    · go_wp2_with fail
      go_ret
      exact ⟨rfl, below_drewN (Below.refl _ _) q⟩

end Go.Proofs.YtfdbjgdafolbmaaDoor

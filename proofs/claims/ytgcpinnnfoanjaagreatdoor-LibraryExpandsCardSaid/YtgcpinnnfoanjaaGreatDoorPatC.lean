/-
  Ranges in order: the program's and the reference's.
-/
import Derived.Test.YtgcpinnnfoanjaaGreatDoorPatB
import Derived.BigQuiet
import Derived.IntWalk
namespace Go.Proofs.YtgcpinnnfoanjaaGreatDoor
open Go.RowKit

def okR (rs : List (UInt8 × UInt8)) (i : Nat) (h : i < rs.length) : Prop := rs[i].1.toNat ≤ rs[i].2.toNat ∧ (0 < i → rs[i - 1].2.toNat + 1 < rs[i].1.toNat)
noncomputable def srtB (rs : List (UInt8 × UInt8)) : Bool := @decide (0 < rs.length ∧ ∀ i (h : i < rs.length), okR rs i h) (Classical.propDecidable _)
theorem srtB_yes {rs : List (UInt8 × UInt8)} (h : 0 < rs.length ∧ ∀ i (h : i < rs.length), okR rs i h) : srtB rs = true := by unfold srtB; exact @decide_eq_true _ (Classical.propDecidable _) h
theorem srtB_no {rs : List (UInt8 × UInt8)} (h : ¬ (0 < rs.length ∧ ∀ i (h : i < rs.length), okR rs i h)) : srtB rs = false := by unfold srtB; exact @decide_eq_false _ (Classical.propDecidable _) h

set_option maxRecDepth 100000 in
set_option maxHeartbeats 2000000 in
theorem right_any (rs : List (UInt8 × UInt8)) (v : Value) (w : World) (h : RgAt w rs v) :
    Calls Tryz.prog 112 #[v] w fun e w' => e = .returned (.bool (srtB rs)) ∧ Below w.heap.size w w' := by
  obtain ⟨a, c, rfl, hm, hk⟩ := h
  have HK := Lib.hid hk
  obtain ⟨B, hB⟩ : ∃ B, srtB rs = B := ⟨_, rfl⟩
  have HY := Lib.hid fun (h : 0 < rs.length ∧ ∀ i (h : i < rs.length), okR rs i h) => show true = B by rw [← hB, srtB_yes h]
  have HN := Lib.hid fun (h : ¬ (0 < rs.length ∧ ∀ i (h : i < rs.length), okR rs i h)) => show false = B by rw [← hB, srtB_no h]
  rw [hB]
  clear hk hB
  go_enter Tryz.func112, Tryz.ntmps112
  go_wp2_with fail
  go_loopw [7] (fun i wr => ∃ k : Nat, i = .int .i64 k ∧ k ≤ rs.length ∧ Hid (∀ i (h : i < rs.length), i < k → okR rs i h) ∧ Below w.heap.size w wr) (fun i _ => rs.length - (intOf i).toNat)
  case atStart => exact ⟨0, rfl, by omega, Lib.hid (fun _ _ h => by omega), Below.refl _ _⟩
  case round =>
    obtain ⟨k, rfl, hkl, hok, hb⟩ := hrel
    have HB := Lib.hid hb
    by_cases hlt : k < rs.length
    · obtain ⟨blk, off, rfl, hl, c0, c1⟩ := HK.out k hlt
      have e0 := (hb.cell (p := ⟨blk, off + k * 2, none⟩) hl).trans c0
      have e1 := (hb.cell (p := ⟨blk, off + k * 2 + 1, none⟩) hl).trans c1
      have i1 : (k : Int) < (rs.length : Int) := by omega
      have i2 : (0 : Int) ≤ (k : Int) := by omega
      have hlw : blk < wr.heap.size := Nat.lt_of_lt_of_le hl hb.size
      have HOK := Lib.hid (show okR rs k hlt ↔ (rs[k].1.toNat ≤ rs[k].2.toNat ∧ (0 < k → rs[k - 1].2.toNat + 1 < rs[k].1.toNat)) from Iff.rfl)
      have hlo := rs[k].1.toNat_lt
      have hhi := rs[k].2.toNat_lt
      have HPV : Hid (0 < k → ∃ p : Nat, rs[k - 1].2.toNat = p ∧ p < 256 ∧ wr.cell? ⟨blk, off + (k - 1) * 2 + 1, none⟩ = some (.int .u8 (p : Int))) := Lib.hid (fun h0 => by
        obtain ⟨blk', off', e, _, _, c1'⟩ := HK.out (k - 1) (by omega)
        simp only [Option.some.injEq, Addr.mk.injEq, and_true] at e
        obtain ⟨rfl, rfl⟩ := e
        exact ⟨_, rfl, rs[k - 1].2.toNat_lt, (hb.cell (p := ⟨blk, off + (k - 1) * 2 + 1, none⟩) hl).trans c1'⟩)
      obtain ⟨lo, hlo1⟩ : ∃ lo, rs[k].1.toNat = lo := ⟨_, rfl⟩
      obtain ⟨hi, hhi1⟩ : ∃ hi, rs[k].2.toNat = hi := ⟨_, rfl⟩
      rw [hlo1] at e0 hlo HOK
      rw [hhi1] at e1 hhi HOK
      have HBA := Lib.hid (hb.alloc hb.size (.cells #[.int .u8 lo, .int .u8 hi] 87))
      clear c0 c1 hlo1 hhi1 hb
      by_cases h1 : lo ≤ hi
      · have z1 : decide ((hi : Int) < (lo : Int)) = false := decide_eq_false (by omega)
        by_cases h2 : 0 < k
        · obtain ⟨p, hp1, hp2, hp3⟩ := HPV.out h2
          have z2 : decide ((0 : Int) < (k : Int)) = true := decide_eq_true (by omega)
          have j1 : ((k : Int) - 1) < (rs.length : Int) := by omega
          have j4 : (1 : Int) ≤ (k : Int) := by omega
          have j5 : (k : Int) ≤ (rs.length : Int) := by omega
          have j6 : 1 ≤ k := h2
          have j2 : (0 : Int) ≤ (k : Int) - 1 := by omega
          have j3 : ((k : Int) - 1).toNat = k - 1 := by omega
          rw [hp1] at HOK
          clear hp1 HPV
          by_cases h3 : p + 1 < lo
          · have z3 : decide ((lo : Int) ≤ (p : Int) + 1) = false := decide_eq_false (by omega)
            have HO : Hid (∀ i (h : i < rs.length), i < k + 1 → okR rs i h) := Lib.hid (fun i h hi' => by
              by_cases e : i = k
              · subst e; exact HOK.out.2 ⟨h1, fun _ => h3⟩
              · exact hok.out i h (by omega))
            have z4 : decide (hi < lo) = false := decide_eq_false (by omega)
            have s3 : IntKind.i64.wrap (lo : Int) = (lo : Int) := IntWalk.i64_in _ (by omega)
            have s4 : IntKind.i64.wrap (p : Int) = (p : Int) := IntWalk.i64_in _ (by omega)
            have s1 : IntKind.i64.wrap ((k : Int) - 1) = (k : Int) - 1 := IntWalk.i64_in _ (by omega)
            have s2 : IntKind.i64.wrap ((p : Int) + 1) = (p : Int) + 1 := IntWalk.i64_in _ (by omega)
            go_wp2_with fail
            go_quiet (fail)
            clear s1 s2 s3 s4
            go_wp2_with fail
            go_roundw
            case rel => exact ⟨k + 1, by go_num, by omega, HO, below_drewN HBA.out _⟩
            case measure => simp [intOf]; omega
          · have z3 : decide ((lo : Int) ≤ (p : Int) + 1) = true := decide_eq_true (by omega)
            have HX : Hid (false = B) := Lib.hid (HN.out fun h => h3 ((HOK.out.1 (h.2 k hlt)).2 h2))
            have z4 : decide (hi < lo) = false := decide_eq_false (by omega)
            have s3 : IntKind.i64.wrap (lo : Int) = (lo : Int) := IntWalk.i64_in _ (by omega)
            have s4 : IntKind.i64.wrap (p : Int) = (p : Int) := IntWalk.i64_in _ (by omega)
            have s1 : IntKind.i64.wrap ((k : Int) - 1) = (k : Int) - 1 := IntWalk.i64_in _ (by omega)
            have s2 : IntKind.i64.wrap ((p : Int) + 1) = (p : Int) + 1 := IntWalk.i64_in _ (by omega)
            go_wp2_with fail
            go_quiet (fail)
            clear s1 s2 s3 s4
            go_wp2_with fail
            go_ret
            exact ⟨ret_bool HX.out, below_drewN HBA.out _⟩
        · have z2 : decide ((0 : Int) < (k : Int)) = false := decide_eq_false (by omega)
          have HO : Hid (∀ i (h : i < rs.length), i < k + 1 → okR rs i h) := Lib.hid (fun i h hi' => by
            by_cases e : i = k
            · subst e; exact HOK.out.2 ⟨h1, fun h => absurd h h2⟩
            · exact hok.out i h (by omega))
          have z4 : decide (hi < lo) = false := decide_eq_false (by omega)
          go_wp2_with fail
          go_quiet (fail)
          clear z4
          go_wp2_with fail
          go_roundw
          case rel => exact ⟨k + 1, by go_num, by omega, HO, below_drewN HBA.out _⟩
          case measure => simp [intOf]; omega
      · have z1 : decide ((hi : Int) < (lo : Int)) = true := decide_eq_true (by omega)
        have z4 : decide (hi < lo) = true := decide_eq_true (by omega)
        have HX : Hid (false = B) := Lib.hid (HN.out fun h => h1 (HOK.out.1 (h.2 k hlt)).1)
        go_wp2_with fail
        go_quiet (fail)
        clear z4
        go_wp2_with fail
        go_ret
        exact ⟨ret_bool HX.out, below_drewN HBA.out _⟩
    · obtain rfl : k = rs.length := by omega
      by_cases h0 : 0 < rs.length
      · have HX : Hid (true = B) := Lib.hid (HY.out ⟨h0, fun i h => hok.out i h h⟩)
        have z0 : decide ((0 : Int) < (rs.length : Int)) = true := decide_eq_true (by omega)
        go_wp2_with fail
        go_ret
        exact ⟨ret_bool HX.out, HB.out⟩
      · have HX : Hid (false = B) := Lib.hid (HN.out fun h => h0 h.1)
        have z0 : decide ((0 : Int) < (rs.length : Int)) = false := decide_eq_false (by omega)
        go_wp2_with fail
        go_ret
        exact ⟨ret_bool HX.out, HB.out⟩

end Go.Proofs.YtgcpinnnfoanjaaGreatDoor

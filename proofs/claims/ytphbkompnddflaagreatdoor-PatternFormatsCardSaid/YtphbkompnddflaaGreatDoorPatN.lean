/-
  Check of the reference.
-/
import Derived.Test.YtphbkompnddflaaGreatDoorPatM
import Derived.BigQuiet
namespace Go.Proofs.YtphbkompnddflaaGreatDoor
open Go.RowKit

set_option maxRecDepth 100000 in
set_option maxHeartbeats 4000000 in
theorem rcheck_any (t : NT) (v : Value) (w : World) (h : NAt w t v) :
    Calls Tryz.prog 25 #[v] w fun e w' => e = .returned (.int .i64 (ckE t)) ∧ Below w.heap.size w w' := by
  obtain ⟨op, rs, nm, kids, mn, mx, ra, rc, a, cp, ht, rfl, _⟩ := h.open
  have hb1 := (Below.refl _ w).alloc (Nat.le_refl _) (.cells #[.int .i64 op, .slice ra rs.length rc, .string ⟨nm.toArray⟩, .slice a kids.length cp, .int .i64 mn, .int .i64 mx] 25)
  have HI := Lib.hid (walk_aux _ t _ w _ (w.heap.size + 1) 0 0 [] (.slice none 0 0) (Nat.lt_succ_self _) h hb1 (by omega) (by simp) (World.ownsRow_nil _ _ _ _) (by omega) (by simp) (by omega))
  have hok := ckN_ok _ t 0 0 [] (Nat.lt_succ_self _) (by omega) (by simp)
  obtain ⟨r, hr⟩ : ∃ r, ckN t 0 0 [] = r := ⟨_, rfl⟩
  rw [hr] at HI hok
  obtain ⟨c, ns, e⟩ := r
  have HE := Lib.hid (ckE_of hr)
  have HOK := Lib.hid hok
  obtain ⟨Z, hZ⟩ : ∃ Z, ckE t = Z := ⟨_, rfl⟩
  rw [hZ] at HE ⊢
  clear h hb1 hr hok hZ ht
  go_enter Tryz.func25, Tryz.ntmps25
  go_wp2_with fail
  refine HI.out.mono ?_
  rintro q w2 ⟨v2, rfl, hrow, hcf, hb⟩
  have HROW := Lib.hid hrow
  have HB2 := Lib.hid hb
  clear hrow hcf hb HI
  have hlen : ns.length ≤ 401 := Nat.le_trans HOK.out.2.1 HOK.out.1
  by_cases e0 : e = 0
  · have HE2 : Hid ((Dup ns → Z = 7) ∧ (¬ Dup ns → 16 < ns.length → Z = 4) ∧ (¬ Dup ns → ¬ 16 < ns.length → Z = 0)) := Lib.hid ⟨HE.out.2.1 e0, HE.out.2.2.1 e0, HE.out.2.2.2 e0⟩
    subst e0
    rcases Nat.eq_zero_or_pos ns.length with l0 | l0
    · have hns : ns = [] := List.length_eq_zero_iff.1 l0
      subst hns
      have hv : v2 = .slice none 0 0 ∨ ∃ g cap, v2 = .slice (some ⟨g, 0, none⟩) 0 cap := by
        rcases HROW.out.2 with ⟨h1, _⟩ | ⟨g, cap, cur, h1, _⟩
        · exact .inl h1
        · exact .inr ⟨g, cap, h1⟩
      have HZ : Hid (Z = 0) := Lib.hid (HE2.out.2.2 (fun ⟨i, h, _⟩ => by simp at h) (by simp))
      rcases hv with rfl | ⟨g, cap, rfl⟩
      all_goals
        go_wp2_with fail
        go_loop [6] (fun q => q = .int .i64 0) (fun _ => 0)
        case atStart => rfl
        case round =>
          obtain rfl := hrel
          go_wp2_with fail
          go_ret
          exact ⟨ret_int (by rw [HZ.out]; rfl), HB2.out⟩
    · obtain ⟨g, cap, rfl, hcap, hcm, hgl, hcell⟩ := own_row HROW.out l0
      have HC := Lib.hid fun W (hb : Below w2.heap.size w2 W) i hi => (hb.cell (p := ⟨g, i, none⟩) hgl).trans (hcell i hi)
      clear hcell HROW
      go_wp2_with fail
      go_loopw [6] (fun q wr => ∃ i : Nat, i ≤ ns.length ∧ q = .int .i64 i ∧ Hid (∀ j (h : j < ns.length), j < i → ns[j] ∉ ns.take j) ∧ Below w2.heap.size w2 wr) (fun q _ => ns.length - (intOf q).toNat)
      case atStart => exact ⟨0, by omega, rfl, Lib.hid (fun _ _ _ => by omega), Below.refl _ _⟩
      case round =>
        obtain ⟨i, hil, rfl, HNO, hb⟩ := hrel
        have HBO := Lib.hid hb
        clear hb
        by_cases hlt : i < ns.length
        · have i1 : (i : Int) < (ns.length : Int) := by omega
          have i2 : (0 : Int) ≤ (i : Int) := by omega
          obtain ⟨x, hx⟩ : ∃ x, ns[i] = x := ⟨_, rfl⟩
          have HX := Lib.hid hx
          have HCX := Lib.hid fun W hb => (HC.out W hb i hlt).trans (by rw [hx])
          clear hx
          go_wp2_with fail
          obtain ⟨wo, rfl⟩ : ∃ wo : World, wo = wr := ⟨_, rfl⟩
          go_loopw [7] (fun q wr => ∃ k : Nat, k ≤ i ∧ q = .int .i64 k ∧ Hid (x ∉ ns.take k) ∧ Below w2.heap.size w2 wr) (fun q _ => i - (intOf q).toNat)
          case atStart => exact ⟨0, by omega, rfl, Lib.hid (by simp), HBO.out⟩
          case round =>
            obtain ⟨k, hki, rfl, HNX, hb⟩ := hrel
            have HBI := Lib.hid hb
            by_cases hlk : k < i
            · have j1 : (k : Int) < (i : Int) := by omega
              have j2 : (0 : Int) ≤ (k : Int) := by omega
              have j3 : (k : Int) < (ns.length : Int) := by omega
              have hkf : k < ns.length := by omega
              have ci := HCX.out wr hb
              have ck := HC.out wr hb k hkf
              have HY := Lib.hid (take_yes (fs := ns) (k := k) (n := i) hkf hlk)
              have HN : Hid (x ≠ ns[k] → x ∉ ns.take (k + 1)) := Lib.hid (fun hx => take_not hkf HNX.out hx)
              clear hb
              generalize ns[k] = y at *
              by_cases he : x = y
              · have HZ : Hid (Z = 7) := Lib.hid (HE2.out.1 ⟨i, hlt, by rw [HX.out, he]; exact HY.out⟩)
                subst he
                go_wp2_with fail
                go_quiet (fail)
                go_wp2_with fail
                go_ret
                exact ⟨ret_int (by rw [HZ.out]; rfl), HB2.out.trans ((below_drewN HBI.out _).mono HB2.out.size)⟩
              · have b1 : (y == x) = false := beq_eq_false_iff_ne.2 (fun h => he h.symm)
                have HN2 := Lib.hid (HN.out he)
                clear he HN HY
                go_wp2_with fail
                go_quiet (fail)
                go_wp2_with fail
                go_roundw
                case rel => exact ⟨k + 1, by omega, by go_num, HN2, below_drewN HBI.out _⟩
                case measure => simp [intOf]; omega
            · obtain rfl : k = i := by omega
              have HN2 : Hid (∀ j (h : j < ns.length), j < k + 1 → ns[j] ∉ ns.take j) := Lib.hid (fun j h h2 => by
                by_cases e : j = k
                · subst e; rw [HX.out]; exact HNX.out
                · exact HNO.out j h (by omega))
              go_wp2_with fail
              go_roundw
              case rel => exact ⟨k + 1, by omega, by go_num, HN2, HBI.out⟩
              case measure => simp [intOf]; omega
        · obtain rfl : i = ns.length := by omega
          have HND : Hid (¬ Dup ns) := Lib.hid (fun ⟨i, h, hm⟩ => HNO.out i h h hm)
          by_cases h16 : 16 < ns.length
          · have z1 : decide ((16 : Int) < (ns.length : Int)) = true := decide_eq_true (by omega)
            have HZ : Hid (Z = 4) := Lib.hid (HE2.out.2.1 HND.out h16)
            go_wp2_with fail
            go_ret
            exact ⟨ret_int (by rw [HZ.out]; rfl), HB2.out.trans (HBO.out.mono HB2.out.size)⟩
          · have z1 : decide ((16 : Int) < (ns.length : Int)) = false := decide_eq_false (by omega)
            have HZ : Hid (Z = 0) := Lib.hid (HE2.out.2.2 HND.out h16)
            go_wp2_with fail
            go_ret
            exact ⟨ret_int (by rw [HZ.out]; rfl), HB2.out.trans (HBO.out.mono HB2.out.size)⟩
  · have HZ : Hid (Z = e) := Lib.hid (HE.out.1 e0)
    have y1 : ((e : Int) != 0) = true := by rw [bne_iff_ne]; omega
    go_wp2_with fail
    go_ret
    exact ⟨ret_int (by rw [HZ.out]), HB2.out⟩

end Go.Proofs.YtphbkompnddflaaGreatDoor

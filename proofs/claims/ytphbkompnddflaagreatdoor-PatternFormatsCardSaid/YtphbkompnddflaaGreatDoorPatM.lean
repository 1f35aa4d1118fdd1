/-
  Check of the program: names that occur twice.
-/
import Derived.Test.YtphbkompnddflaaGreatDoorPatL
namespace Go.Proofs.YtphbkompnddflaaGreatDoor
open Go.RowKit

def Dup (fs : List (List UInt8)) : Prop := ∃ i, ∃ h : i < fs.length, fs[i] ∈ fs.take i
open Classical in
noncomputable def ckE (t : NT) : Nat := if (ckN t 0 0 []).2.2 ≠ 0 then (ckN t 0 0 []).2.2 else if Dup (ckN t 0 0 []).2.1 then 7 else if 16 < (ckN t 0 0 []).2.1.length then 4 else 0
theorem ckE_of {t : NT} {c e : Nat} {ns : List (List UInt8)} (h : ckN t 0 0 [] = (c, ns, e)) : (e ≠ 0 → ckE t = e) ∧ (e = 0 → Dup ns → ckE t = 7) ∧ (e = 0 → ¬ Dup ns → 16 < ns.length → ckE t = 4) ∧ (e = 0 → ¬ Dup ns → ¬ 16 < ns.length → ckE t = 0) := by
  unfold ckE
  rw [h]
  refine ⟨fun h0 => if_pos h0, fun h0 h1 => ?_, fun h0 h1 h2 => ?_, fun h0 h1 h2 => ?_⟩
  · rw [if_neg (by simpa using h0), if_pos h1]
  · rw [if_neg (by simpa using h0), if_neg h1, if_pos h2]
  · rw [if_neg (by simpa using h0), if_neg h1, if_neg h2]
theorem own_row {w : World} {B : Nat} {v : Value} {fs : List (List UInt8)} (h : w.ownsRow B 9 1 v fs.length (strCellsL fs)) (h0 : 0 < fs.length) :
    ∃ g cap, v = .slice (some ⟨g, 0, none⟩) fs.length cap ∧ fs.length ≤ cap ∧ cap ≤ 9223372036854775807 ∧ g < w.heap.size ∧ ∀ i (hi : i < fs.length), w.cell? ⟨g, i, none⟩ = some (.string ⟨(fs[i]).toArray⟩) := by
  have hss := ss_own h
  obtain ⟨hl, ⟨rfl, h1⟩ | ⟨g, cap, cur, rfl, _, hg, hn, hcm, hsz, htk⟩⟩ := h
  · omega
  · obtain ⟨a', cap', e, hc⟩ := hss
    injection e with e1 e2 e3
    subst e1 e3
    obtain ⟨g', e, hl', hc'⟩ := hc h0
    simp only [Option.some.injEq, Addr.mk.injEq, and_true] at e
    subst e
    exact ⟨g, cap, rfl, hn, hcm, hl', hc'⟩
theorem take_not {fs : List (List UInt8)} {k : Nat} {x : List UInt8} (hk : k < fs.length) (h : x ∉ fs.take k) (hx : x ≠ fs[k]) : x ∉ fs.take (k + 1) := by
  rw [Asc.snoc_take fs k hk]
  simp only [List.mem_append, List.mem_cons, List.not_mem_nil, or_false, not_or]
  exact ⟨h, hx⟩
theorem take_yes {fs : List (List UInt8)} {k n : Nat} (hk : k < fs.length) (hn : k < n) : fs[k] ∈ fs.take n := by
  rw [List.mem_take_iff_getElem]
  exact ⟨k, by omega, rfl⟩

set_option maxRecDepth 100000 in
set_option maxHeartbeats 2000000 in
theorem sindex_any (x : List UInt8) (fs : List (List UInt8)) (i g cap : Nat) (w : World) (hi : i ≤ fs.length) (hl : fs.length ≤ 1000) (hc : ∀ j (h : j < fs.length), w.cell? ⟨g, j, none⟩ = some (.string ⟨(fs[j]).toArray⟩)) :
    Calls Tryz.prog 33 #[.slice (some ⟨g, 0, none⟩) i cap, .string ⟨x.toArray⟩] w fun e w' => (∃ n : Int, e = .returned (.int .i64 n) ∧ (0 ≤ n ↔ x ∈ fs.take i)) ∧ w = w' := by
  have HC := Lib.hid hc
  clear hc
  go_enter Tryz.func33, Tryz.ntmps33
  go_wp2_with fail
  go_loop [8] (fun q => ∃ k : Nat, k ≤ i ∧ q = .int .i64 k ∧ Hid (x ∉ fs.take k)) (fun q => i - (intOf q).toNat)
  case atStart => exact ⟨0, by omega, rfl, Lib.hid (by simp)⟩
  case round =>
    obtain ⟨k, hki, rfl, HNO⟩ := hrel
    by_cases hlt : k < i
    · have hcell := HC.out k (by omega)
      have i1 : (k : Int) < (i : Int) := by omega
      have i2 : (0 : Int) ≤ (k : Int) := by omega
      have HY := Lib.hid (take_yes (fs := fs) (k := k) (n := i) (by omega) hlt)
      have hkf : k < fs.length := by omega
      have HN : Hid (x ≠ fs[k] → x ∉ fs.take (k + 1)) := Lib.hid (fun hx => take_not hkf HNO.out hx)
      generalize fs[k] = y at *
      by_cases he : x = y
      · subst he
        go_wp2_with fail
        go_ret
        exact ⟨⟨k, rfl, iff_of_true (by omega) HY.out⟩, rfl⟩
      · have b1 : (x == y) = false := beq_eq_false_iff_ne.2 he
        have HN2 := Lib.hid (HN.out he)
        clear he HN HY
        go_wp2_with fail
        go_round
        case rel => exact ⟨k + 1, by omega, by go_num, HN2⟩
        case measure => simp [intOf]; omega
    · obtain rfl : k = i := by omega
      go_wp2_with fail
      go_ret
      exact ⟨⟨-1, rfl, iff_of_false (by omega) HNO.out⟩, rfl⟩
theorem scontains_any (x : List UInt8) (fs : List (List UInt8)) (i g cap : Nat) (w : World) (hi : i ≤ fs.length) (hl : fs.length ≤ 1000) (hc : ∀ j (h : j < fs.length), w.cell? ⟨g, j, none⟩ = some (.string ⟨(fs[j]).toArray⟩)) (b : Bool) (hb : b = true ↔ x ∈ fs.take i) :
    Calls Tryz.prog 17 #[.slice (some ⟨g, 0, none⟩) i cap, .string ⟨x.toArray⟩] w fun e w' => e = .returned (.bool b) ∧ w = w' := by
  have HI := Lib.hid (sindex_any x fs i g cap w hi hl hc)
  have HB := Lib.hid hb
  clear hc hb
  go_enter Tryz.func17, Tryz.ntmps17
  go_wp2_with fail
  refine HI.out.mono ?_
  rintro e w' ⟨⟨n, rfl, hn⟩, rfl⟩
  have HN := Lib.hid hn
  clear hn
  go_wp2_with fail
  go_ret
  refine ⟨ret_bool ?_, rfl⟩
  rw [Bool.eq_iff_iff, HB.out, ← HN.out]
  simp

theorem ck_new (w : World) : CK w.heap.size 0 [] (.slice none 0 0) (w.alloc (.cells #[.int .i64 0, .slice none 0 0] 45)) :=
  ⟨by simp, by simp [go_sem], by simp [go_sem], by simp [go_sem], by simp [go_sem], World.ownsRow_nil _ _ _ _⟩

set_option maxRecDepth 100000 in
set_option maxHeartbeats 4000000 in
theorem check_any (t : NT) (v : Value) (w : World) (h : NAt w t v) (hk : Kinds w) :
    Calls Tryz.prog 6 #[v] w fun e w' => e = .returned (.int .i64 (ckE t)) ∧ Below w.heap.size w w' := by
  obtain ⟨op, rs, nm, kids, mn, mx, ra, rc, a, cp, ht, rfl, _⟩ := h.open
  have hb1 := (Below.refl _ w).alloc (Nat.le_refl _) (.cells #[.int .i64 op, .slice ra rs.length rc, .string ⟨nm.toArray⟩, .slice a kids.length cp, .int .i64 mn, .int .i64 mx] 25)
  have HB0 := Lib.hid (hb1.alloc hb1.size (.cells #[.int .i64 0, .slice none 0 0] 45))
  have HCK : Hid (CK (w.heap.size + 1) 0 [] (.slice none 0 0) ((w.alloc (.cells #[.int .i64 op, .slice ra rs.length rc, .string ⟨nm.toArray⟩, .slice a kids.length cp, .int .i64 mn, .int .i64 mx] 25)).alloc (.cells #[.int .i64 0, .slice none 0 0] 45))) := Lib.hid (by
    have := ck_new (w.alloc (.cells #[.int .i64 op, .slice ra rs.length rc, .string ⟨nm.toArray⟩, .slice a kids.length cp, .int .i64 mn, .int .i64 mx] 25))
    simpa using this)
  have HI := Lib.hid (check_aux _ t _ w _ (w.heap.size + 1) 0 0 [] (.slice none 0 0) (Nat.lt_succ_self _) h hk HB0.out (by omega) HCK.out (by omega) (by simp) (by omega))
  have hok := ckN_ok _ t 0 0 [] (Nat.lt_succ_self _) (by omega) (by simp)
  obtain ⟨r, hr⟩ : ∃ r, ckN t 0 0 [] = r := ⟨_, rfl⟩
  rw [hr] at HI hok
  obtain ⟨c, ns, e⟩ := r
  have HE := Lib.hid (ckE_of hr)
  have HOK := Lib.hid hok
  obtain ⟨Z, hZ⟩ : ∃ Z, ckE t = Z := ⟨_, rfl⟩
  rw [hZ] at HE ⊢
  clear h hk hb1 hr hok hZ ht
  go_enter Tryz.func6, Tryz.ntmps6
  go_wp2_with fail
  refine HI.out.mono ?_
  rintro q w2 ⟨v2, rfl, hck, hcf, hb⟩
  have HCK2 := Lib.hid hck
  have HB2 := Lib.hid hb
  clear hck hcf hb HI
  have p1 := HCK2.out.c1
  have hlen : ns.length ≤ 401 := Nat.le_trans HOK.out.2.1 HOK.out.1
  by_cases e0 : e = 0
  · have HE2 : Hid ((Dup ns → Z = 7) ∧ (¬ Dup ns → 16 < ns.length → Z = 4) ∧ (¬ Dup ns → ¬ 16 < ns.length → Z = 0)) := Lib.hid ⟨HE.out.2.1 e0, HE.out.2.2.1 e0, HE.out.2.2.2 e0⟩
    subst e0
    rcases Nat.eq_zero_or_pos ns.length with l0 | l0
    · have hns : ns = [] := List.length_eq_zero_iff.1 l0
      subst hns
      have hv : v2 = .slice none 0 0 ∨ ∃ g cap, v2 = .slice (some ⟨g, 0, none⟩) 0 cap := by
        rcases HCK2.out.row.2 with ⟨h1, _⟩ | ⟨g, cap, cur, h1, _⟩
        · exact .inl h1
        · exact .inr ⟨g, cap, h1⟩
      have HZ : Hid (Z = 0) := Lib.hid (HE2.out.2.2 (fun ⟨i, h, _⟩ => by simp at h) (by simp))
      rcases hv with rfl | ⟨g, cap, rfl⟩
      all_goals
        go_wp2_with fail
        go_loop [20] (fun q => q = .int .i64 0) (fun _ => 0)
        case atStart => rfl
        case round =>
          obtain rfl := hrel
          go_wp2_with fail
          go_ret
          exact ⟨ret_int (by rw [HZ.out]; rfl), HB2.out⟩
    · obtain ⟨g, cap, rfl, hcap, hcm, hgl, hcell⟩ := own_row HCK2.out.row l0
      have HC := Lib.hid hcell
      clear hcell
      go_wp2_with fail
      go_loop [20] (fun q => ∃ k : Nat, k ≤ ns.length ∧ q = .int .i64 k ∧ Hid (∀ i (h : i < ns.length), i < k → ns[i] ∉ ns.take i)) (fun q => ns.length - (intOf q).toNat)
      case atStart => exact ⟨0, by omega, rfl, Lib.hid (fun _ _ _ => by omega)⟩
      case round =>
        obtain ⟨k, hkl, rfl, HNO⟩ := hrel
        by_cases hlt : k < ns.length
        · have hcell := HC.out k hlt
          have i1 : (k : Int) < (ns.length : Int) := by omega
          have i2 : (0 : Int) ≤ (k : Int) := by omega
          have i3 : (k : Int) ≤ (cap : Int) := by omega
          by_cases hm : ns[k] ∈ ns.take k
          · have HCO := Lib.hid (scontains_any ns[k] ns k g cap w2 hkl (by omega) HC.out true (iff_of_true rfl hm))
            have HZ : Hid (Z = 7) := Lib.hid (HE2.out.1 ⟨k, hlt, hm⟩)
            clear hm
            generalize ns[k] = y at *
            go_wp2_with fail
            refine HCO.out.mono ?_
            rintro q w3 ⟨rfl, rfl⟩
            go_wp2_with fail
            go_ret
            exact ⟨ret_int (by rw [HZ.out]; rfl), HB2.out⟩
          · have HCO := Lib.hid (scontains_any ns[k] ns k g cap w2 hkl (by omega) HC.out false (iff_of_false (by decide) hm))
            have HN2 : Hid (∀ i (h : i < ns.length), i < k + 1 → ns[i] ∉ ns.take i) := Lib.hid (fun i h h2 => by
              by_cases e : i = k
              · subst e; exact hm
              · exact HNO.out i h (by omega))
            clear hm
            generalize ns[k] = y at *
            go_wp2_with fail
            refine HCO.out.mono ?_
            rintro q w3 ⟨rfl, rfl⟩
            go_wp2_with fail
            go_round
            case rel => exact ⟨k + 1, by omega, by go_num, HN2⟩
            case measure => simp [intOf]; omega
        · obtain rfl : k = ns.length := by omega
          have HND : Hid (¬ Dup ns) := Lib.hid (fun ⟨i, h, hm⟩ => HNO.out i h h hm)
          by_cases h16 : 16 < ns.length
          · have z1 : decide ((16 : Int) < (ns.length : Int)) = true := decide_eq_true (by omega)
            have HZ : Hid (Z = 4) := Lib.hid (HE2.out.2.1 HND.out h16)
            go_wp2_with fail
            go_ret
            exact ⟨ret_int (by rw [HZ.out]; rfl), HB2.out⟩
          · have z1 : decide ((16 : Int) < (ns.length : Int)) = false := decide_eq_false (by omega)
            have HZ : Hid (Z = 0) := Lib.hid (HE2.out.2.2 HND.out h16)
            go_wp2_with fail
            go_ret
            exact ⟨ret_int (by rw [HZ.out]; rfl), HB2.out⟩
  · have HZ : Hid (Z = e) := Lib.hid (HE.out.1 e0)
    have y1 : ((e : Int) != 0) = true := by rw [bne_iff_ne]; omega
    go_wp2_with fail
    go_ret
    exact ⟨ret_int (by rw [HZ.out]), HB2.out⟩

end Go.Proofs.YtphbkompnddflaaGreatDoor

/-
  Lists of names: slices.Equal at strings.
-/
import Derived.Test.YtmcnhphmglmmeaaQryH
import Derived.BigQuiet
namespace Go.Proofs.Ytmcnhphmglmmeaa
open Go.RowKit

/-- Names as they lie. -/
def NAt (w : World) (ns : List (List UInt8)) (v : Value) : Prop := ∃ a c, v = .slice a ns.length c ∧ ns.length ≤ 9223372036854775807 ∧
    (∀ i (h : i < ns.length), ∃ blk off, a = some ⟨blk, off, none⟩ ∧ blk < w.heap.size ∧ w.cell? ⟨blk, off + i, none⟩ = some (.string ⟨ns[i].toArray⟩))
theorem NAt.later {w w' : World} (hb : Below w.heap.size w w') {ns : List (List UInt8)} {v : Value} (h : NAt w ns v) : NAt w' ns v := by
  obtain ⟨a, c, e, hm, hk⟩ := h
  refine ⟨a, c, e, hm, fun i hi => ?_⟩
  obtain ⟨blk, off, e1, hl, c0⟩ := hk i hi
  exact ⟨blk, off, e1, Nat.lt_of_lt_of_le hl hb.size, (hb.cell (p := ⟨blk, off + i, none⟩) hl).trans c0⟩

set_option maxRecDepth 100000 in
set_option maxHeartbeats 4000000 in
theorem equal_names (ns1 ns2 : List (List UInt8)) (u v : Value) (w : World) (h1 : NAt w ns1 u) (h2 : NAt w ns2 v) :
    Calls Try.prog 22 #[u, v] w fun e w' => e = .returned (.bool (eqL ns1 ns2)) ∧ Below w.heap.size w w' := by
  obtain ⟨a, c, rfl, hm, hk⟩ := h1
  obtain ⟨a2, c2, rfl, hm2, hk2⟩ := h2
  have HK := Lib.hid hk
  have HK2 := Lib.hid hk2
  clear hk hk2
  by_cases h4 : ¬ ns1.length = ns2.length
  · have z4 : ((ns1.length : Int) != (ns2.length : Int)) = true := by rw [bne_iff_ne]; omega
    have HE := Lib.hid (eqL_no (s := ns1) (t := ns2) (fun e => h4 (by rw [e])))
    go_enter Try.func22, Try.ntmps22
    go_wp2_with fail
    go_ret
    exact ⟨ret_bool HE.out.symm, Below.refl _ _⟩
  have h5 : ns1.length = ns2.length := Classical.not_not.1 h4
  clear h4
  have H5 := Lib.hid h5
  rw [← h5] at hm2 ⊢
  clear h5
  go_enter Try.func22, Try.ntmps22
  go_wp2_with fail
  go_loopw [13] (fun i wr => ∃ (k : Nat), i = .int .i64 k ∧ k ≤ ns1.length ∧ (∀ j (h : j < ns1.length) (h' : j < ns2.length), j < k → ns1[j] = ns2[j]) ∧ Below w.heap.size w wr) (fun i _ => ns1.length - (intOf i).toNat)
  case atStart => exact ⟨0, rfl, by omega, fun j _ _ h => absurd h (by omega), Below.refl _ _⟩
  case round =>
    obtain ⟨k, rfl, hkl, hq, hb⟩ := hrel
    have HQ := Lib.hid hq
    have HB := Lib.hid hb
    clear hq hb
    by_cases hlt : k < ns1.length
    · have hlt2 : k < ns2.length := H5.out ▸ hlt
      obtain ⟨blk, off, rfl, hl, p0⟩ := HK.out k hlt
      obtain ⟨blk2, off2, rfl, hl2, q0⟩ := HK2.out k hlt2
      have e0 := (HB.out.cell (p := ⟨blk, off + k, none⟩) hl).trans p0
      have f0 := (HB.out.cell (p := ⟨blk2, off2 + k, none⟩) hl2).trans q0
      have i1 : (k : Int) < (ns1.length : Int) := by omega
      have i2 : (0 : Int) ≤ (k : Int) := by omega
      clear p0 q0
      have HX : Hid (ns1[k] = ns2[k] → ∀ j (h : j < ns1.length) (h' : j < ns2.length), j < k + 1 → ns1[j] = ns2[j]) := Lib.hid fun he j h h' hj => by
        by_cases hjk : j = k
        · subst hjk
          exact he
        · exact HQ.out j h h' (by omega)
      have HN : Hid (ns1[k] ≠ ns2[k] → eqL ns1 ns2 = false) := Lib.hid fun hne => eqL_no (fun e => hne (by subst e; rfl))
      generalize ns1[k] = x at *
      generalize ns2[k] = y at *
      by_cases heq : x = y
      · have HX2 := Lib.hid (HX.out heq)
        subst heq
        clear HX HN
        go_wp2_with fail
        go_quiet (fail)
        go_wp2_with fail
        go_roundw
        case rel => exact ⟨k + 1, by go_num, by omega, HX2.out, below_drewN HB.out _⟩
        case measure => simp [intOf]; omega
      · have HE := Lib.hid (HN.out heq)
        have z0 : (!x == y) = true := by simp [heq]
        clear HX HN heq
        go_wp2_with fail
        go_quiet (fail)
        go_wp2_with fail
        go_ret
        exact ⟨ret_bool HE.out.symm, below_drewN HB.out _⟩
    · have HE := Lib.hid (eqL_yes (List.ext_getElem H5.out (fun j h h' => HQ.out j h h' (by omega))))
      go_wp2_with fail
      go_ret
      exact ⟨ret_bool HE.out.symm, HB.out⟩

end Go.Proofs.Ytmcnhphmglmmeaa

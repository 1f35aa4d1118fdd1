/-
  Trim, Lower and Cut of package ascii and of its reference.
-/
import Derived.Test.YtloilffkggkgdaaDoorAscN
import Derived.Test.YtloilffkggkgdaaDoorAscSpl
import Derived.Shelf.Strings.SlTrimAscii
namespace Go.Proofs.YtloilffkggkgdaaDoor
open Go.RowKit

namespace Asc
theorem trim_seg (l : List UInt8) (a b : Nat) (hab : a ≤ b) (hb : b ≤ l.length) (h1 : ∀ j (hj : j < l.length), j < a → sp l[j] = true) (h2 : ∀ (hj : a < l.length), sp l[a] = false)
    (h3 : ∀ j (hj : j < l.length), b ≤ j → sp l[j] = true) (h4 : ∀ (h0 : a < b), sp (l[b - 1]'(by omega)) = false) : Lib.trimS l [32, 9] = seg l a b := by
  have hsp : ∀ c : UInt8, ([32, 9] : List UInt8).contains c = sp c := fun c => by
    unfold sp isSpace
    rw [Bool.eq_iff_iff]
    simp only [List.contains_eq_mem, List.mem_cons, List.not_mem_nil, or_false, decide_eq_true_iff]
    constructor
    · rintro (rfl | rfl)
      · exact .inl rfl
      · exact .inr rfl
    · rintro (h | h)
      · exact .inl (UInt8.toNat_inj.1 h)
      · exact .inr (UInt8.toNat_inj.1 h)
  unfold Lib.trimS
  rcases Nat.eq_zero_or_pos (b - a) with h0 | h0
  · obtain rfl : a = b := by omega
    have hall : ∀ j (hj : j < l.length), sp l[j] = true := fun j hj => by
      rcases Nat.lt_or_ge j a with c | c
      · exact h1 j hj c
      · exact h3 j hj c
    rw [Lib.trimRightS_take l [32, 9] 0 (by omega) (fun j c _ hj => by
      obtain ⟨hj', rfl⟩ := List.getElem?_eq_some_iff.1 hj
      rw [hsp]; exact hall j hj') (fun c h => by omega), seg_same]
    rfl
  · rw [Lib.trimRightS_take l [32, 9] b hb (fun j c hbj hj => by
      obtain ⟨hj', rfl⟩ := List.getElem?_eq_some_iff.1 hj
      rw [hsp]; exact h3 j hj' hbj) (fun c _ hc => by
      obtain ⟨hj, rfl⟩ := List.getElem?_eq_some_iff.1 hc
      rw [hsp]; exact h4 (by omega))]
    rw [Lib.trimLeftS_drop (l.take b) [32, 9] a (by rw [List.length_take]; omega) (fun j c hja hj => by
      rw [List.getElem?_take_of_lt (by omega)] at hj
      obtain ⟨hj', rfl⟩ := List.getElem?_eq_some_iff.1 hj
      rw [hsp]; exact h1 j hj' hja) (fun c hc => by
      rw [List.getElem?_take_of_lt (by omega)] at hc
      obtain ⟨hj, rfl⟩ := List.getElem?_eq_some_iff.1 hc
      rw [hsp]; exact h2 hj)]
    unfold seg
    rw [List.drop_take]
/-- A byte in lower case. -/
def low (c : UInt8) : UInt8 := if 65 ≤ c.toNat ∧ c.toNat ≤ 90 then c + 32 else c
theorem low_yes {c : UInt8} (h : 65 ≤ c.toNat ∧ c.toNat ≤ 90) : (low c).toNat = c.toNat + 32 := by
  unfold low; rw [if_pos h, UInt8.toNat_add]
  have : (32 : UInt8).toNat = 32 := rfl
  omega
theorem low_no {c : UInt8} (h : ¬ (65 ≤ c.toNat ∧ c.toNat ≤ 90)) : low c = c := by unfold low; rw [if_neg h]
def lowTo (l : List UInt8) (k : Nat) : List UInt8 := (l.take k).map low ++ l.drop k
theorem lowTo_length (l : List UInt8) (k : Nat) (h : k ≤ l.length) : (lowTo l k).length = l.length := by unfold lowTo; simp; omega
theorem lowTo_at (l : List UInt8) (k i : Nat) (h : i < l.length) (hk : k ≤ i) : at_ (lowTo l k) i = (l[i]).toNat := by
  unfold at_ lowTo
  have e : ((l.take k).map low).length = k := by simp; omega
  rw [List.getElem?_append_right (by omega), e, List.getElem?_drop, show k + (i - k) = i by omega, List.getElem?_eq_getElem h]
theorem lowTo_succ (l : List UInt8) (k : Nat) (h : k < l.length) : lowTo l (k + 1) = (lowTo l k).set k (low l[k]) := by
  unfold lowTo
  have e : ((l.take k).map low).length = k := by simp; omega
  rw [snoc_take l k h, List.map_append, List.map_cons, List.map_nil, List.set_append_right _ _ (by omega), e, Nat.sub_self, drop_cons h, List.append_assoc]
  rfl
theorem lowTo_same (l : List UInt8) (k : Nat) (h : k < l.length) (hn : low l[k] = l[k]) : lowTo l (k + 1) = lowTo l k := by
  rw [lowTo_succ l k h, hn]
  apply List.ext_getElem?
  intro i
  rw [List.getElem?_set]
  split
  · rename_i e
    subst e
    rw [if_pos (by rw [lowTo_length l k (by omega)]; exact h)]
    unfold lowTo
    have e2 : ((l.take k).map low).length = k := by simp; omega
    rw [List.getElem?_append_right (by omega), e2, Nat.sub_self, drop_cons h]
    rfl
  · rfl
theorem lowTo_all (l : List UInt8) : lowTo l l.length = l.map low := by unfold lowTo; simp
end Asc

theorem info69 : (Tryd.prog.info? 69).map (fun i => (i.zero, i.size)) = some (some (.agg (Array.replicate 256 (.bool false))), 256) := by kernel_rfl

theorem trim_any (l : List UInt8) (w : World) (hs : l.length ≤ 140737488351232) :
    Calls Tryd.prog 29 #[.string ⟨l.toArray⟩] w fun e w' => e = .returned (.string ⟨(Lib.trimS l [32, 9]).toArray⟩) ∧ Below w.heap.size w w' := by
  have HT := Lib.hid (Any.strings_Trim_laid Tryd.lays160 info69 ⟨l.toArray⟩ ⟨#[32, 9]⟩ w (by rw [ba_size]; omega) (by decide) (ascii_of_all (by decide)))
  go_enter Tryd.func29, Tryd.ntmps29
  go_wp2_with (go_at_call 44; refine HT.out.mono ?_; rintro e w1 ⟨rfl, hb⟩)
  go_ret
  exact ⟨rfl, hb⟩

set_option maxHeartbeats 2000000 in
theorem rtrim_any (l : List UInt8) (w : World) (hs : l.length ≤ 140737488351232) :
    Calls Tryd.prog 30 #[.string ⟨l.toArray⟩] w fun e w' => e = .returned (.string ⟨(Lib.trimS l [32, 9]).toArray⟩) ∧ w = w' := by
  have HF := Lib.hid (Asc.trim_seg l)
  generalize Lib.trimS l [32, 9] = R at *
  go_enter Tryd.func30, Tryd.ntmps30
  go_wp2_with fail
  go_loop [3] (fun i => ∃ k : Nat, k ≤ l.length ∧ i = .int .i64 k ∧ ∀ j (hj : j < l.length), j < k → Asc.sp l[j] = true) (fun i => l.length - (intOf i).toNat)
  case atStart => exact ⟨0, by omega, rfl, fun j _ h => by omega⟩
  case round =>
    obtain ⟨k, hk, rfl, hall⟩ := hrel
    have HA := Lib.hid hall
    clear hall
    have key : (k < l.length ∧ ∃ h : k < l.length, Asc.sp l[k] = true) ∨ (∀ h : k < l.length, Asc.sp l[k] = false) := by
      rcases Nat.lt_or_ge k l.length with c | c
      · cases e : Asc.sp l[k]
        · exact .inr fun _ => e
        · exact .inl ⟨c, c, e⟩
      · exact .inr fun h => by omega
    rcases key with ⟨hlt, _, hsp⟩ | hno
    · obtain ⟨c, ⟨_, hx⟩, hc, hc2⟩ := byte_at l k hlt
      have hsc : Asc.isSpace c = true := by rw [← hc]; exact hsp
      have HS := Lib.hid (rspace_any c w hc2)
      rw [hsc] at HS
      have HC := Lib.hid hsp
      clear hc hsc hsp
      go_wp2_with (go_at_call 19; refine HS.out.mono ?_; rintro e w' ⟨rfl, rfl⟩)
      go_round
      case rel => exact ⟨k + 1, by omega, by go_num, fun j hj h => by rcases Nat.lt_or_ge j k with c | c; exact HA.out j hj c; (obtain rfl : j = k := by omega); exact HC.out⟩
      case measure => simp [intOf]; omega
    · have HN := Lib.hid hno
      clear hno
      by_cases hlt : k < l.length
      · obtain ⟨c, ⟨_, hx⟩, hc, hc2⟩ := byte_at l k hlt
        have hsc : Asc.isSpace c = false := by rw [← hc]; exact HN.out hlt
        have HS := Lib.hid (rspace_any c w hc2)
        rw [hsc] at HS
        clear hc hsc
        go_wp2_with (go_at_call 19; refine HS.out.mono ?_; rintro e w' ⟨rfl, rfl⟩)
        go_loop [4] (fun i => ∃ m : Nat, k ≤ m ∧ m ≤ l.length ∧ i = .int .i64 m ∧ ∀ j (hj : j < l.length), m ≤ j → Asc.sp l[j] = true) (fun i => (intOf i).toNat)
        case atStart => exact ⟨l.length, hk, Nat.le_refl _, rfl, fun j hj h => by omega⟩
        case round =>
          obtain ⟨m, hkm, hm, rfl, hall⟩ := hrel
          have HB := Lib.hid hall
          clear hall
          by_cases hgt : k < m
          · obtain ⟨m, rfl⟩ : ∃ m', m = m' + 1 := ⟨m - 1, by omega⟩
            obtain ⟨d, ⟨_, hy⟩, hd, hd2⟩ := byte_at l m (by omega)
            have HS2 := Lib.hid (rspace_any d w hd2)
            have HD := Lib.hid hd
            clear hd
            cases hsp : Asc.isSpace d
            · rw [hsp] at HS2
              have fin := Lib.hid (HF.out k (m + 1) hkm hm HA.out HN.out HB.out (fun _ => by show Asc.isSpace (l[m]).toNat = _; rw [HD.out]; exact hsp))
              clear hsp
              go_wp2_with (go_at_call 19; refine HS2.out.mono ?_; rintro e w' ⟨rfl, rfl⟩)
              go_ret
              exact ⟨by rw [fin.out, ← Asc.extract_seg]; rfl, rfl⟩
            · rw [hsp] at HS2
              have HP := Lib.hid (show ∀ hj : m < l.length, Asc.sp l[m] = true from fun hj => by show Asc.isSpace (l[m]).toNat = _; rw [HD.out]; exact hsp)
              clear hsp
              go_wp2_with (go_at_call 19; refine HS2.out.mono ?_; rintro e w' ⟨rfl, rfl⟩)
              go_round
              case rel => exact ⟨m, by omega, by omega, by go_num, fun j hj h => by rcases Nat.lt_or_ge m j with c | c; exact HB.out j hj c; (obtain rfl : j = m := by omega); exact HP.out hj⟩
              case measure => simp [intOf]
          · obtain rfl : m = k := by omega
            have fin := Lib.hid (HF.out m m (Nat.le_refl _) hm HA.out HN.out HB.out (fun h => by omega))
            go_wp2_with fail
            go_ret
            exact ⟨by rw [fin.out, Asc.seg_same]; rfl, rfl⟩
      · go_wp2_with fail
        go_loop [4] (fun i => ∃ m : Nat, k ≤ m ∧ m ≤ l.length ∧ i = .int .i64 m) (fun i => (intOf i).toNat)
        case atStart => exact ⟨l.length, hk, Nat.le_refl _, rfl⟩
        case round =>
          obtain ⟨m, hkm, hm, rfl⟩ := hrel
          obtain rfl : m = k := by omega
          have fin := Lib.hid (HF.out m m (Nat.le_refl _) hm HA.out HN.out (fun j hj h => by omega) (fun h => by omega))
          go_wp2_with fail
          go_ret
          exact ⟨by rw [fin.out, Asc.seg_same]; rfl, rfl⟩

/-! ### Lower -/
structure LowI (w : World) (l : List UInt8) (cap k : Nat) (wr : World) : Prop where
  cells : BA wr w.heap.size 0 (Asc.lowTo l k)
  free : ∀ i, i < cap → wr.frozen? ⟨w.heap.size, i, none⟩ = false
  below : Below w.heap.size w wr
theorem LowI.set {w : World} {l : List UInt8} {cap k : Nat} {wr : World} (h : LowI w l cap k wr) (hk : k < l.length) : LowI w l cap (k + 1) (wr.setCell ⟨w.heap.size, k, none⟩ (.int .u8 ((Asc.low l[k]).toNat : Int))) := by
  have hl := Asc.lowTo_length l k (by omega)
  refine ⟨fun i hi => ?_, fun i hi => by rw [World.frozen?_setCell]; exact h.free i hi, h.below.setCell (p := ⟨w.heap.size, k, none⟩) (Nat.le_refl _) _⟩
  rw [Asc.lowTo_length l (k + 1) (by omega)] at hi
  have hc := h.cells i (by omega)
  have hck := h.cells k (by omega)
  rw [Nat.zero_add] at hc hck ⊢
  rw [Asc.lowTo_succ l k hk]
  by_cases e : i = k
  · subst e
    rw [World.cell?_setCell_same _ _ _ hck]
    unfold Asc.at_
    rw [List.getElem?_set_self (by omega)]
  · rw [World.cell?_setCell_other _ _ _ _ (by intro h; simp only [Addr.mk.injEq] at h; omega), hc]
    unfold Asc.at_
    rw [List.getElem?_set_ne (fun h => e h.symm)]
theorem LowI.same {w : World} {l : List UInt8} {cap k : Nat} {wr : World} (h : LowI w l cap k wr) (hk : k < l.length) (hn : Asc.low l[k] = l[k]) : LowI w l cap (k + 1) wr := by
  refine ⟨?_, h.free, h.below⟩
  rw [Asc.lowTo_same l k hk hn]
  exact h.cells
theorem conv_ba {w : World} {b : Nat} {l : List UInt8} (cap : Nat) (h : BA w b 0 l) : (convert 22 9 (.slice (some ⟨b, 0, none⟩) l.length cap)).run Tryd.prog w = .ok (.string ⟨l.toArray⟩) w :=
  run_convert_bytes_back w 22 9 5 ⟨b, 0, none⟩ cap l Tryd.underlying22 Tryd.underlying5 Tryd.underlying9 fun j hj => by
    have := h j hj
    rw [Asc.at_of hj] at this
    rw [← this]
    congr 1
    unfold Addr.add
    split <;> simp_all

set_option maxRecDepth 100000 in
set_option maxHeartbeats 2000000 in
theorem lower_any (l : List UInt8) (w : World) (hs : l.length ≤ 140737488351232) :
    Calls Tryd.prog 31 #[.string ⟨l.toArray⟩] w fun e w' => e = .returned (.string ⟨(l.map Asc.low).toArray⟩) ∧ Below w.heap.size w w' := by
  obtain ⟨cap, w2, nb⟩ := conv_bytes w l
  have hr := nb.run
  have H0 : Hid (LowI w l cap 0 w2) := (show LowI w l cap 0 w2 from ⟨by show BA w2 w.heap.size 0 ([] ++ l); exact nb.cells, nb.free, nb.below⟩)
  have hroom := nb.room
  clear nb
  go_enter Tryd.func31, Tryd.ntmps31
  go_wp2_with fail
  go_loopw [10] (fun i wr => ∃ k : Nat, k ≤ l.length ∧ i = .int .i64 k ∧ LowI w l cap k wr) (fun i _ => l.length - (intOf i).toNat)
  case atStart => exact ⟨0, by omega, rfl, H0.out⟩
  case round =>
    obtain ⟨k, hk, rfl, hI⟩ := hrel
    have HI := Lib.hid hI
    by_cases hlt : k < l.length
    · have hcell := hI.cells.at k (by rw [Asc.lowTo_length l k hk]; exact hlt)
      rw [Asc.lowTo_at l k k hlt (Nat.le_refl _)] at hcell
      have hfr := hI.free k (by omega)
      have hc2 : l[k].toNat < 256 := l[k].toNat_lt
      by_cases hu : 65 ≤ l[k].toNat ∧ l[k].toNat ≤ 90
      · have HL := Lib.hid (Asc.low_yes hu)
        have HN := Lib.hid (hI.set hlt)
        rw [HL.out] at HN
        obtain ⟨u1, u2⟩ := hu
        generalize l[k].toNat = c at *
        clear hI
        go_wp2_with fail
        go_roundw
        case rel => exact ⟨k + 1, by omega, by go_num, by have := HN.out; exact_mod_cast this⟩
        case measure => simp [intOf]; omega
      · have HN := Lib.hid (hI.same hlt (Asc.low_no hu))
        clear hI
        generalize l[k].toNat = c at *
        by_cases hu1 : 65 ≤ c
        · have hu2 : 90 < c := by omega
          go_wp2_with fail
          go_roundw
          case rel => exact ⟨k + 1, by omega, by go_num, HN.out⟩
          case measure => simp [intOf]; omega
        · go_wp2_with fail
          go_roundw
          case rel => exact ⟨k + 1, by omega, by go_num, HN.out⟩
          case measure => simp [intOf]; omega
    · obtain rfl : k = l.length := by omega
      have hcv : (convert 22 9 (.slice (some ⟨w.heap.size, 0, none⟩) l.length cap)).run Tryd.prog wr = .ok (.string ⟨(l.map Asc.low).toArray⟩) wr := by
        have hc := HI.out.cells
        rw [Asc.lowTo_all] at hc
        have := conv_ba cap hc
        rwa [List.length_map] at this
      clear hI
      go_wp2_with fail
      go_ret
      exact ⟨rfl, HI.out.below⟩

end Go.Proofs.YtloilffkggkgdaaDoor

/-
  Joined: PfA, PfB, PfC, PfD, Shelf, PfE, PfF, PfG, PfH, PfI.
-/
import Derived.Test.YtphbkompnddflaaGreatDoorPyA
import Derived.Test.YtphbkompnddflaaGreatDoorNumK
import Derived.Test.YtphbkompnddflaaGreatDoorPzF
import Derived.Laws.Runes
import Derived.Test.YtphbkompnddflaaGreatDoorFacts
import Derived.Lib.Builder
import Derived.Lib.OthersKept
import Derived.Lib.AppendStr
import Derived.Laws.Externs
import Derived.Lib.UnsafeStr
import Derived.Laws.AppendOwnNone
import Derived.Shelf.Strings.Builder1
import Derived.Shelf.Small.Strs
import Derived.Shelf.Strings.BuilderF
import Derived.Shelf.Strings.BuilderK
import Derived.Shelf.Strconv.Itoa0
import Derived.Shelf.Strconv.Itoa1
import Derived.Shelf.LaysM
import Derived.Shelf.Strconv.Itoa2
import Derived.Shelf.Strconv.Itoa3
import Derived.Shelf.Strings.Search1
import Derived.Shelf.Strings.Prefix
import Derived.Shelf.Strings.BuilderCap
import Derived.Test.YtphbkompnddflaaGreatDoorProg
import Derived.StillTailTactics
/-
  What writing a pattern computes, plainly.
-/
namespace Go.Proofs.YtphbkompnddflaaGreatDoor

/-- How a byte is written within brackets; nothing if it cannot be. -/
def wrB (c : UInt8) : List UInt8 :=
  if c = 10 then [92, 110] else if c = 9 then [92, 116] else if c.toNat < 32 ∨ 126 < c.toNat then [] else if c ∈ oddL then [92, c] else [c]
/-- How a range is written. -/
def wrR (r : UInt8 × UInt8) : List UInt8 := wrB r.1 ++ (if r.1 = r.2 then [] else 45 :: wrB r.2)
def canR (r : UInt8 × UInt8) : Bool := decide (wrB r.1 ≠ []) && decide (wrB r.2 ≠ [])
/-- How ranges are written, and whether they can be. -/
def itmL (rs : List (UInt8 × UInt8)) : List UInt8 := (rs.map wrR).flatten
def itmO (rs : List (UInt8 × UInt8)) : Bool := rs.all canR
def itmS (rs : List (UInt8 × UInt8)) : List UInt8 := if itmO rs then itmL rs else []
def itmB (rs : List (UInt8 × UInt8)) : Bool := itmO rs && decide (itmL rs ≠ [])
/-- The bytes of ranges. -/
def uniF (rs : List (UInt8 × UInt8)) : Nat → Bool := rs.foldl (fun f r c => f c || spanF r.1.toNat (r.2.toNat + 1) c) (fun _ => false)
def negR (rs : List (UInt8 × UInt8)) : List (UInt8 × UInt8) := rngs (fun c => !uniF rs c) 0
/-- How a class is written, and whether it can be. -/
def clsS (rs : List (UInt8 × UInt8)) : List UInt8 := if itmB rs then 91 :: (itmS rs ++ [93]) else 91 :: 94 :: (itmS (negR rs) ++ [93])
def clsB (rs : List (UInt8 × UInt8)) : Bool := itmB rs || itmB (negR rs)
/-- A small number. -/
def decL (n : Int) : List UInt8 := Lib.decDigits n.toNat
/-- How bounds are written. -/
def bdsL (lo hi : Int) : List UInt8 := 123 :: (decL lo ++ ((if hi = -1 then [44] else if hi = lo then [] else 44 :: decL hi) ++ [125]))
def opOf : NT → Int
  | .node op _ _ _ _ _ => op
mutual
/-- How a node is written. -/
def nodL : NT → List UInt8
  | .node op rs nm ks mn mx =>
    if op = 0 then [40, 41] else if op = 6 then [94] else if op = 7 then [36] else if op = 1 then clsS rs
    else if op = 2 then insL [2, 3] ks else if op = 3 then altS ks
    else if op = 4 then insL [2, 3, 4] ks ++ bdsL mn mx
    else if op = 5 then 40 :: (nm ++ (58 :: (insL [] ks ++ [41]))) else []
/-- Nodes one after the other, in parentheses if their operation is one of these. -/
def insL (ops : List Int) : List NT → List UInt8
  | [] => []
  | k :: ks => (if opOf k ∈ ops then 40 :: (nodL k ++ [41]) else nodL k) ++ insL ops ks
/-- Alternatives. -/
def altS : List NT → List UInt8
  | [] => []
  | k :: ks => (if opOf k ∈ [3] then 40 :: (nodL k ++ [41]) else nodL k) ++ altT ks
def altT : List NT → List UInt8
  | [] => []
  | k :: ks => 124 :: ((if opOf k ∈ [3] then 40 :: (nodL k ++ [41]) else nodL k) ++ altT ks)
end
mutual
/-- Whether a class cannot be written. -/
def wrgL : NT → Bool
  | .node op rs _ ks _ _ => if op = 1 then !clsB rs else wrgs ks
def wrgs : List NT → Bool
  | [] => false
  | k :: ks => wrgL k || wrgs ks
end
mutual
/-- A node that has passed the check: its shape, its names, its bounds; and how many nodes it has. -/
def Good : NT → Prop
  | .node op rs nm ks mn mx => shE op rs nm ks.length mn mx = 0 ∧ Goods ks
def Goods : List NT → Prop
  | [] => True
  | k :: ks => Good k ∧ Goods ks
end
mutual
def cntN : NT → Nat
  | .node _ _ _ ks _ _ => 1 + cnts ks
def cnts : List NT → Nat
  | [] => 0
  | k :: ks => cntN k + cnts ks
end
theorem ck_good (N : Nat) : ∀ (t : NT) (d c : Nat) (ns : List (List UInt8)), SizeOf.sizeOf t < N → (ckN t d c ns).2.2 = 0 → Good t ∧ (ckN t d c ns).1 = c + cntN t := by
  induction N with
  | zero => intro t _ _ _ h; omega
  | succ N ih =>
    intro t d c ns h h0
    obtain ⟨op, rs, nm, kids, mn, mx⟩ := t
    rw [ckN] at h0 ⊢
    split at h0
    · cases h0
    · next h1 =>
      split at h0
      · cases h0
      · next h2 =>
        split at h0
        · next h3 => exact absurd h0 h3
        · next h3 =>
          have h3' : shE op rs nm kids.length mn mx = 0 := by simpa using h3
          rw [if_neg h1, if_neg h2, if_neg h3]
          have key : ∀ ks : List NT, (∀ k ∈ ks, SizeOf.sizeOf k < N) → ∀ c ns, (ckNs ks (d + 1) c ns).2.2 = 0 → Goods ks ∧ (ckNs ks (d + 1) c ns).1 = c + cnts ks := by
            intro ks
            induction ks with
            | nil => intro _ c ns _; rw [ckNs]; exact ⟨trivial, rfl⟩
            | cons k ks ihk =>
              intro hk c ns hz
              rw [ckNs] at hz ⊢
              split at hz
              · next h4 => exact absurd hz h4
              · next h4 =>
                rw [if_neg h4]
                have h4' : (ckN k (d + 1) c ns).2.2 = 0 := by simpa using h4
                have h5 := ih k (d + 1) c ns (hk k (by simp)) h4'
                have h6 := ihk (fun x hx => hk x (List.mem_cons_of_mem _ hx)) _ _ hz
                refine ⟨⟨h5.1, h6.1⟩, ?_⟩
                rw [h6.2, h5.2, cnts]
                omega
          have hk := key kids (fun k hk => by have := List.sizeOf_lt_of_mem hk; simp at h; omega) _ _ h0
          refine ⟨?_, ?_⟩
          · rw [Good]
            exact ⟨h3', hk.1⟩
          · rw [hk.2, cntN]
            omega
theorem ckE_good {t : NT} (h : ckE t = 0) : Good t ∧ cntN t ≤ 400 := by
  have h0 : (ckN t 0 0 []).2.2 = 0 := by
    unfold ckE at h
    split at h
    · next h1 => exact absurd h h1
    · next h1 => simpa using h1
  have h1 := ck_good _ t 0 0 [] (Nat.lt_succ_self _) h0
  have h2 := (ckN_ok _ t 0 0 [] (Nat.lt_succ_self _) (by omega) (by simp)).2.2.1 h0
  exact ⟨h1.1, by omega⟩
end Go.Proofs.YtphbkompnddflaaGreatDoor
/-
  Writing: bytes and ranges.
-/
namespace Go.Proofs.YtphbkompnddflaaGreatDoor
open Go.RowKit

theorem rune8 (c : UInt8) (h : c.toNat < 128) : Utf8.encode (c.toNat : Int) = ⟨#[c]⟩ := by
  have hv : Utf8.valid (c.toNat : Int) = true := by
    unfold Utf8.valid
    simp
    omega
  unfold Utf8.encode
  simp only [hv, if_true]
  rw [if_pos (by omega)]
  simp
theorem wrap32_8 (c : UInt8) : wrap32 (c.toNat : Int) = (c.toNat : Int) := by
  have := UInt8.toNat_lt c
  unfold wrap32
  omega
set_option maxHeartbeats 4000000 in
set_option maxRecDepth 1000000 in
theorem written_nl (w : World) : Calls Tryz.prog 67 #[.int .u8 10] w fun e w' => e = .returned (.string ⟨#[92, 110]⟩) ∧ w = w' := by
  go_enter Tryz.func67, Tryz.ntmps67
  go_wp2_with fail
  go_ret
  exact ⟨rfl, rfl⟩
set_option maxHeartbeats 4000000 in
set_option maxRecDepth 1000000 in
theorem written_tab (w : World) : Calls Tryz.prog 67 #[.int .u8 9] w fun e w' => e = .returned (.string ⟨#[92, 116]⟩) ∧ w = w' := by
  go_enter Tryz.func67, Tryz.ntmps67
  go_wp2_with fail
  go_ret
  exact ⟨rfl, rfl⟩
set_option maxHeartbeats 4000000 in
set_option maxRecDepth 1000000 in
theorem written_not (c : UInt8) (w : World) (hn1 : c.toNat ≠ 10) (hn2 : c.toNat ≠ 9) (h1 : c.toNat < 32 ∨ 126 < c.toNat) : Calls Tryz.prog 67 #[.int .u8 (c.toNat : Int)] w fun e w' => e = .returned (.string ⟨#[]⟩) ∧ w = w' := by
  have z10 : ((c.toNat : Int) == 10) = false := by rw [beq_eq_false_iff_ne]; omega
  have z9 : ((c.toNat : Int) == 9) = false := by rw [beq_eq_false_iff_ne]; omega
  have HPR := Lib.hid fun W => printable_no c.toNat W h1
  clear h1 hn1 hn2
  go_enter Tryz.func67, Tryz.ntmps67
  go_wp2_with fail
  refine (HPR.out _).mono ?_
  rintro e wp ⟨rfl, rfl⟩
  go_wp2_with fail
  go_ret
  exact ⟨rfl, rfl⟩
set_option maxHeartbeats 4000000 in
set_option maxRecDepth 1000000 in
theorem written_odd (c : UInt8) (w : World) (h1 : 32 ≤ c.toNat) (h2 : c.toNat ≤ 126) (h3 : c ∈ oddL) : Calls Tryz.prog 67 #[.int .u8 (c.toNat : Int)] w fun e w' => e = .returned (.string ⟨#[92, c]⟩) ∧ w = w' := by
  have z10 : ((c.toNat : Int) == 10) = false := by rw [beq_eq_false_iff_ne]; omega
  have z9 : ((c.toNat : Int) == 9) = false := by rw [beq_eq_false_iff_ne]; omega
  have HPR := Lib.hid fun W => printable_yes c.toNat W h1 h2
  have HI := Lib.hid fun W => (show Calls Tryz.prog 76 #[.string ⟨#[93, 45, 94, 92]⟩, .int .u8 (c.toNat : Int)] W _ from ib_yes oddL c W h3)
  obtain ⟨K, hK⟩ : ∃ K, Asc.pos oddL c = K := ⟨_, rfl⟩
  rw [hK] at HI
  have z0 : decide ((0 : Int) ≤ (K : Int)) = true := decide_eq_true (by omega)
  have hru := rune8 c (by omega)
  have hw32 := wrap32_8 c
  clear h1 h2 h3 hK
  go_enter Tryz.func67, Tryz.ntmps67
  go_wp2_with fail
  refine (HPR.out _).mono ?_
  rintro e wp ⟨rfl, rfl⟩
  go_wp2_with fail
  refine (HI.out _).mono ?_
  rintro e wp ⟨rfl, rfl⟩
  go_wp2_with fail
  go_ret
  exact ⟨ret_val (by first | rfl | (exact congrArg Value.string (ba_app [92] [c]))), rfl⟩
set_option maxHeartbeats 4000000 in
set_option maxRecDepth 1000000 in
theorem written_self (c : UInt8) (w : World) (h1 : 32 ≤ c.toNat) (h2 : c.toNat ≤ 126) (h3 : c ∉ oddL) : Calls Tryz.prog 67 #[.int .u8 (c.toNat : Int)] w fun e w' => e = .returned (.string ⟨#[c]⟩) ∧ w = w' := by
  have z10 : ((c.toNat : Int) == 10) = false := by rw [beq_eq_false_iff_ne]; omega
  have z9 : ((c.toNat : Int) == 9) = false := by rw [beq_eq_false_iff_ne]; omega
  have HPR := Lib.hid fun W => printable_yes c.toNat W h1 h2
  have HI := Lib.hid fun W => (show Calls Tryz.prog 76 #[.string ⟨#[93, 45, 94, 92]⟩, .int .u8 (c.toNat : Int)] W _ from ib_no oddL c W h3)
  have hru := rune8 c (by omega)
  have hw32 := wrap32_8 c
  clear h1 h2 h3
  go_enter Tryz.func67, Tryz.ntmps67
  go_wp2_with fail
  refine (HPR.out _).mono ?_
  rintro e wp ⟨rfl, rfl⟩
  go_wp2_with fail
  refine (HI.out _).mono ?_
  rintro e wp ⟨rfl, rfl⟩
  go_wp2_with fail
  go_ret
  exact ⟨rfl, rfl⟩
theorem written_any (c : UInt8) (w : World) : Calls Tryz.prog 67 #[.int .u8 (c.toNat : Int)] w fun e w' => e = .returned (.string ⟨(wrB c).toArray⟩) ∧ w = w' := by
  unfold wrB
  by_cases h1 : c = 10
  · subst h1
    exact written_nl w
  rw [if_neg h1]
  by_cases h2 : c = 9
  · subst h2
    exact written_tab w
  rw [if_neg h2]
  have h1' : c.toNat ≠ 10 := fun e => h1 (UInt8.toNat_inj.1 e)
  have h2' : c.toNat ≠ 9 := fun e => h2 (UInt8.toNat_inj.1 e)
  by_cases h3 : c.toNat < 32 ∨ 126 < c.toNat
  · rw [if_pos h3]
    exact written_not c w h1' h2' h3
  rw [if_neg h3]
  by_cases h4 : c ∈ oddL
  · rw [if_pos h4]
    exact written_odd c w (by omega) (by omega) h4
  · rw [if_neg h4]
    exact written_self c w (by omega) (by omega) h4
theorem wrB_len (c : UInt8) : (wrB c).length ≤ 2 := by
  unfold wrB
  repeat' split
  all_goals simp
theorem wrR_len (r : UInt8 × UInt8) : (wrR r).length ≤ 5 := by
  have h1 := wrB_len r.1
  have h2 := wrB_len r.2
  unfold wrR
  split <;> simp <;> omega
theorem itmL_len (rs : List (UInt8 × UInt8)) : (itmL rs).length ≤ 5 * rs.length := by
  induction rs with
  | nil => simp [itmL]
  | cons r rs ih =>
    have := wrR_len r
    unfold itmL at *
    simp only [List.map_cons, List.flatten_cons, List.length_append, List.length_cons]
    omega
theorem itmL_snoc (rs : List (UInt8 × UInt8)) (k : Nat) (h : k < rs.length) : itmL (rs.take (k + 1)) = itmL (rs.take k) ++ wrR rs[k] := by
  rw [Asc.snoc_take rs k h]
  unfold itmL
  rw [List.map_append, List.flatten_append]
  congr 1
  simp only [List.map_cons, List.map_nil, List.flatten_cons, List.flatten_nil, List.append_nil]
theorem itmO_snoc (rs : List (UInt8 × UInt8)) (k : Nat) (h : k < rs.length) : itmO (rs.take (k + 1)) = (itmO (rs.take k) && canR rs[k]) := by
  rw [Asc.snoc_take rs k h]
  unfold itmO
  rw [List.all_append]
  congr 1
  simp only [List.all_cons, List.all_nil, Bool.and_true]
theorem itmO_bad (rs : List (UInt8 × UInt8)) (k : Nat) (h : k < rs.length) (hb : canR rs[k] = false) : itmO rs = false := by
  unfold itmO
  rw [List.all_eq_false]
  exact ⟨rs[k], List.getElem_mem h, by simp [hb]⟩
set_option maxHeartbeats 4000000 in
set_option maxRecDepth 1000000 in
theorem items_any (rs : List (UInt8 × UInt8)) (v : Value) (w : World) (h : RgAt w rs v) (hl : rs.length ≤ 256) : Calls Tryz.prog 50 #[v] w fun e w' => e = .returned (.tuple #[.string ⟨(itmS rs).toArray⟩, .bool (itmB rs)]) ∧ Below w.heap.size w w' := by
  obtain ⟨a, c, rfl, hm, hk⟩ := h
  have HK := Lib.hid hk
  obtain ⟨S, hS⟩ : ∃ S, itmS rs = S := ⟨_, rfl⟩
  obtain ⟨B, hB⟩ : ∃ B, itmB rs = B := ⟨_, rfl⟩
  have HBAD : Hid (itmO rs = false → S = [] ∧ B = false) := Lib.hid (fun h0 => ⟨by rw [← hS]; unfold itmS; rw [h0]; rfl, by rw [← hB]; unfold itmB; rw [h0]; rfl⟩)
  have HGOOD : Hid (itmO rs = true → S = itmL rs ∧ B = decide (itmL rs ≠ [])) := Lib.hid (fun h0 => ⟨by rw [← hS]; unfold itmS; rw [h0]; rfl, by rw [← hB]; unfold itmB; rw [h0]; rfl⟩)
  rw [hS, hB]
  clear hk hS hB
  go_enter Tryz.func50, Tryz.ntmps50
  go_wp2_with fail
  go_loopw [4, 11] (fun s i wr => ∃ (k : Nat) (acc : List UInt8), i = .int .i64 k ∧ s = .string ⟨acc.toArray⟩ ∧ k ≤ rs.length ∧ acc.length ≤ 5 * k ∧ Hid (acc = itmL (rs.take k) ∧ itmO (rs.take k) = true) ∧ Hid (Below w.heap.size w wr)) (fun _ i _ => rs.length - (intOf i).toNat)
  case atStart => exact ⟨0, [], rfl, rfl, by omega, by simp, Lib.hid ⟨rfl, rfl⟩, Lib.hid (Below.refl _ _)⟩
  case round =>
    obtain ⟨k, acc, rfl, rfl, hkl, hal, HA, HB⟩ := hrel
    by_cases hlt : k < rs.length
    · obtain ⟨blk, off, rfl, hbl, c0, c1⟩ := HK.out k hlt
      have e0 := (HB.out.cell (p := ⟨blk, off + k * 2, none⟩) hbl).trans c0
      have e1 := (HB.out.cell (p := ⟨blk, off + k * 2 + 1, none⟩) hbl).trans c1
      have i1 : (k : Int) < (rs.length : Int) := by omega
      have i2 : (0 : Int) ≤ (k : Int) := by omega
      have hlw : blk < wr.heap.size := Nat.lt_of_lt_of_le hbl HB.out.size
      have hw1 : IntKind.i64.wrap ((k : Int) + 1) = (k : Int) + 1 := IntWalk.i64_in _ (by omega)
      have HSN := Lib.hid (itmL_snoc rs k hlt)
      have HON := Lib.hid (itmO_snoc rs k hlt)
      have HOB := Lib.hid (itmO_bad rs k hlt)
      obtain ⟨r, hr⟩ : ∃ r, rs[k] = r := ⟨_, rfl⟩
      rw [hr] at e0 e1 HSN HON HOB
      obtain ⟨lo, hi⟩ := r
      simp only at e0 e1
      have HBA := Lib.hid (HB.out.alloc HB.out.size (.cells #[.int .u8 (lo.toNat : Int), .int .u8 (hi.toNat : Int)] 56))
      have HWA := Lib.hid fun c W => written_any c W
      have hl1 := wrB_len lo
      have hl2 := wrB_len hi
      have HR : Hid (wrR (lo, hi) = wrB lo ++ (if lo = hi then [] else 45 :: wrB hi)) := Lib.hid rfl
      have HCN : Hid (canR (lo, hi) = (decide (wrB lo ≠ []) && decide (wrB hi ≠ []))) := Lib.hid rfl
      clear c0 c1 hr
      go_wp2_with fail
      go_quiet (first | (go_at_call 67; exact Calls.quiet_of_same ((HWA.out _ _).mono fun _ _ h => ⟨h.1, h.2.symm⟩)))
      have HBQ := Lib.hid (HBA.out.trans (⟨rfl, rfl, rfl, Nat.le_refl _, fun _ _ => rfl⟩ : Below w.heap.size (wr.alloc (.cells #[.int .u8 (lo.toNat : Int), .int .u8 (hi.toNat : Int)] 56)) ((wr.alloc (.cells #[.int .u8 (lo.toNat : Int), .int .u8 (hi.toNat : Int)] 56)).drewN nq)))
      clear HBA
      obtain ⟨L1, hL1⟩ : ∃ L1, wrB lo = L1 := ⟨_, rfl⟩
      obtain ⟨L2, hL2⟩ : ∃ L2, wrB hi = L2 := ⟨_, rfl⟩
      rw [hL1] at HR HCN hl1 ⊢
      rw [hL2] at HR HCN hl2 ⊢
      clear hL1 hL2
      cases L1 with
      | nil =>
        have HF := Lib.hid (HBAD.out (HOB.out (by rw [HCN.out]; rfl)))
        go_wp2_with fail
        go_ret2
        exact ⟨by rw [HF.out.1, HF.out.2]; rfl, HBQ.out⟩
      | cons x1 t1 =>
        cases L2 with
        | nil =>
          have HF := Lib.hid (HBAD.out (HOB.out (by rw [HCN.out]; simp)))
          go_wp2_with fail
          go_ret2
          exact ⟨by rw [HF.out.1, HF.out.2]; rfl, HBQ.out⟩
        | cons x2 t2 =>
          have HO : Hid (itmO (rs.take (k + 1)) = true) := Lib.hid (by rw [HON.out, HA.out.2, HCN.out]; rfl)
          by_cases he : lo = hi
          · have HSE : Hid (itmL (rs.take (k + 1)) = acc ++ x1 :: t1) := Lib.hid (by rw [HSN.out, HR.out, if_pos he, List.append_nil, ← HA.out.1])
            subst he
            have z1 : ((lo.toNat : Int) != (lo.toNat : Int)) = false := by simp
            have n1 : ¬ 9223372036854775807 < acc.length + (t1.length + 1) := by simp only [List.length_cons] at hl1; omega
            go_wp2_with fail
            all_goals try (exfalso; omega)
            refine ⟨⟨k + 1, acc ++ x1 :: t1, by go_num, by rw [ba_app], by omega, by rw [List.length_append]; omega, Lib.hid ⟨HSE.out.symm, HO.out⟩, HBQ⟩, by simp [intOf]; omega⟩
          · have HSE : Hid (itmL (rs.take (k + 1)) = acc ++ ((x1 :: t1) ++ 45 :: x2 :: t2)) := Lib.hid (by rw [HSN.out, HR.out, if_neg he, ← HA.out.1])
            have hne : lo.toNat ≠ hi.toNat := fun e => he (UInt8.toNat_inj.1 e)
            have z1 : ((lo.toNat : Int) != (hi.toNat : Int)) = true := by simp; omega
            have z2 : ((lo.toNat : Int) == (hi.toNat : Int)) = false := by rw [beq_eq_false_iff_ne]; omega
            have n1 : ¬ 9223372036854775807 < acc.length + (t1.length + 1) := by simp only [List.length_cons] at hl1; omega
            have n2 : ¬ 9223372036854775807 < 1 + (t2.length + 1) := by simp only [List.length_cons] at hl2; omega
            have n3 : ¬ 9223372036854775807 < acc.length + (t1.length + 1) + (1 + (t2.length + 1)) := by simp only [List.length_cons] at hl1 hl2; omega
            clear he hne
            go_wp2_with fail
            all_goals try (exfalso; omega)
            refine ⟨⟨k + 1, acc ++ ((x1 :: t1) ++ 45 :: x2 :: t2), by go_num, ?_, by omega, by simp only [List.length_append, List.length_cons] at hl1 hl2 ⊢; omega, Lib.hid ⟨HSE.out.symm, HO.out⟩, HBQ⟩, by simp [intOf]; omega⟩
            rw [← ba_app acc, ← ba_app (x1 :: t1)]
            first
            | rfl
            | (simp only [ba_app, List.append_assoc]; rfl)
    · have z1 : decide ((k : Int) < (rs.length : Int)) = false := decide_eq_false (by omega)
      have y1 : decide (k < rs.length) = false := decide_eq_false hlt
      have hk2 : rs.take k = rs := List.take_of_length_le (by omega)
      have HG : Hid (S = acc ∧ B = decide (acc ≠ [])) := Lib.hid (by
        have h1 := HA.out
        rw [hk2] at h1
        have h2 := HGOOD.out h1.2
        rw [h1.1]
        exact h2)
      clear hk2 hal
      cases acc with
      | nil =>
        go_wp2_with fail
        go_ret2
        exact ⟨by rw [HG.out.1, HG.out.2]; rfl, HB.out⟩
      | cons x1 t1 =>
        go_wp2_with fail
        go_ret2
        exact ⟨by rw [HG.out.1, HG.out.2]; first | rfl | simp, HB.out⟩
end Go.Proofs.YtphbkompnddflaaGreatDoor
/-
  Writing a class.
-/
namespace Go.Proofs.YtphbkompnddflaaGreatDoor
open Go.RowKit

theorem uniF_snoc (rs : List (UInt8 × UInt8)) (k : Nat) (h : k < rs.length) : uniF (rs.take (k + 1)) = fun c => uniF (rs.take k) c || spanF rs[k].1.toNat (rs[k].2.toNat + 1) c := by
  rw [Asc.snoc_take rs k h]
  unfold uniF
  rw [List.foldl_append]
  rfl
theorem rngs_len_aux (f : Nat → Bool) (n : Nat) : ∀ k, 256 - k ≤ n → (rngs f k).length ≤ n := by
  induction n with
  | zero =>
    intro k hk
    rw [rngs, dif_neg (by omega)]
    simp
  | succ n ih =>
    intro k hk
    rw [rngs]
    split
    · rename_i h
      split
      · have := runTo_ge f k
        have := ih (runTo f k + 1) (by omega)
        simp only [List.length_cons]
        omega
      · have := ih (k + 1) (by omega)
        omega
    · simp
theorem rngs_len (f : Nat → Bool) : (rngs f 0).length ≤ 256 := rngs_len_aux f 256 0 (by omega)
theorem itmS_len {rs : List (UInt8 × UInt8)} (h : rs.length ≤ 256) : (itmS rs).length ≤ 1280 := by
  unfold itmS
  have := itmL_len rs
  split
  · omega
  · simp
theorem or_rg {B : Nat} {rs : List (UInt8 × UInt8)} {v : Value} {W : World} (h : OR B 56 2 RgR W rs v) : RgAt W rs v := (h.rw (F := fun _ => True) (fun _ _ => trivial)).rg
theorem lcons2 {l : List Value} {n : Nat} (h : l.length = n + 1) : ∃ x t, l = x :: t ∧ t.length = n := by
  cases l with
  | nil => simp at h
  | cons x t => exact ⟨x, t, rfl, by simpa using h⟩
theorem arr45 (a : Array Value) (h : a.size = 45) : ∃ x0 x1 x2 x3 x4 x5 x6 x7 x8 x9 x10 x11 x12 x13 x14 x15 x16 x17 x18 x19 x20 x21 x22 x23 x24 x25 x26 x27 x28 x29 x30 x31 x32 x33 x34 x35 x36 x37 x38 x39 x40 x41 x42 x43 x44 : Value, a = (x0 :: x1 :: x2 :: x3 :: x4 :: x5 :: x6 :: x7 :: x8 :: x9 :: x10 :: x11 :: x12 :: x13 :: x14 :: x15 :: x16 :: x17 :: x18 :: x19 :: x20 :: x21 :: x22 :: x23 :: x24 :: x25 :: x26 :: x27 :: x28 :: x29 :: x30 :: x31 :: x32 :: x33 :: x34 :: x35 :: x36 :: x37 :: x38 :: x39 :: x40 :: x41 :: x42 :: x43 :: x44 :: []).toArray := by
  obtain ⟨l⟩ := a
  simp only [List.size_toArray] at h
  obtain ⟨x0, l0, e0, h0⟩ := lcons2 h
  subst e0
  obtain ⟨x1, l1, e1, h1⟩ := lcons2 h0
  subst e1
  obtain ⟨x2, l2, e2, h2⟩ := lcons2 h1
  subst e2
  obtain ⟨x3, l3, e3, h3⟩ := lcons2 h2
  subst e3
  obtain ⟨x4, l4, e4, h4⟩ := lcons2 h3
  subst e4
  obtain ⟨x5, l5, e5, h5⟩ := lcons2 h4
  subst e5
  obtain ⟨x6, l6, e6, h6⟩ := lcons2 h5
  subst e6
  obtain ⟨x7, l7, e7, h7⟩ := lcons2 h6
  subst e7
  obtain ⟨x8, l8, e8, h8⟩ := lcons2 h7
  subst e8
  obtain ⟨x9, l9, e9, h9⟩ := lcons2 h8
  subst e9
  obtain ⟨x10, l10, e10, h10⟩ := lcons2 h9
  subst e10
  obtain ⟨x11, l11, e11, h11⟩ := lcons2 h10
  subst e11
  obtain ⟨x12, l12, e12, h12⟩ := lcons2 h11
  subst e12
  obtain ⟨x13, l13, e13, h13⟩ := lcons2 h12
  subst e13
  obtain ⟨x14, l14, e14, h14⟩ := lcons2 h13
  subst e14
  obtain ⟨x15, l15, e15, h15⟩ := lcons2 h14
  subst e15
  obtain ⟨x16, l16, e16, h16⟩ := lcons2 h15
  subst e16
  obtain ⟨x17, l17, e17, h17⟩ := lcons2 h16
  subst e17
  obtain ⟨x18, l18, e18, h18⟩ := lcons2 h17
  subst e18
  obtain ⟨x19, l19, e19, h19⟩ := lcons2 h18
  subst e19
  obtain ⟨x20, l20, e20, h20⟩ := lcons2 h19
  subst e20
  obtain ⟨x21, l21, e21, h21⟩ := lcons2 h20
  subst e21
  obtain ⟨x22, l22, e22, h22⟩ := lcons2 h21
  subst e22
  obtain ⟨x23, l23, e23, h23⟩ := lcons2 h22
  subst e23
  obtain ⟨x24, l24, e24, h24⟩ := lcons2 h23
  subst e24
  obtain ⟨x25, l25, e25, h25⟩ := lcons2 h24
  subst e25
  obtain ⟨x26, l26, e26, h26⟩ := lcons2 h25
  subst e26
  obtain ⟨x27, l27, e27, h27⟩ := lcons2 h26
  subst e27
  obtain ⟨x28, l28, e28, h28⟩ := lcons2 h27
  subst e28
  obtain ⟨x29, l29, e29, h29⟩ := lcons2 h28
  subst e29
  obtain ⟨x30, l30, e30, h30⟩ := lcons2 h29
  subst e30
  obtain ⟨x31, l31, e31, h31⟩ := lcons2 h30
  subst e31
  obtain ⟨x32, l32, e32, h32⟩ := lcons2 h31
  subst e32
  obtain ⟨x33, l33, e33, h33⟩ := lcons2 h32
  subst e33
  obtain ⟨x34, l34, e34, h34⟩ := lcons2 h33
  subst e34
  obtain ⟨x35, l35, e35, h35⟩ := lcons2 h34
  subst e35
  obtain ⟨x36, l36, e36, h36⟩ := lcons2 h35
  subst e36
  obtain ⟨x37, l37, e37, h37⟩ := lcons2 h36
  subst e37
  obtain ⟨x38, l38, e38, h38⟩ := lcons2 h37
  subst e38
  obtain ⟨x39, l39, e39, h39⟩ := lcons2 h38
  subst e39
  obtain ⟨x40, l40, e40, h40⟩ := lcons2 h39
  subst e40
  obtain ⟨x41, l41, e41, h41⟩ := lcons2 h40
  subst e41
  obtain ⟨x42, l42, e42, h42⟩ := lcons2 h41
  subst e42
  obtain ⟨x43, l43, e43, h43⟩ := lcons2 h42
  subst e43
  obtain ⟨x44, l44, e44, h44⟩ := lcons2 h43
  subst e44
  obtain rfl := List.length_eq_zero_iff.1 h44
  exact ⟨x0, x1, x2, x3, x4, x5, x6, x7, x8, x9, x10, x11, x12, x13, x14, x15, x16, x17, x18, x19, x20, x21, x22, x23, x24, x25, x26, x27, x28, x29, x30, x31, x32, x33, x34, x35, x36, x37, x38, x39, x40, x41, x42, x43, x44, rfl⟩
/-- A range in a block of its own. -/
structure RAt (b : Nat) (lo hi : UInt8) (W : World) : Prop where
  c0 : W.cell? ⟨b, 0, none⟩ = some (.int .u8 (lo.toNat : Int))
  c1 : W.cell? ⟨b, 1, none⟩ = some (.int .u8 (hi.toNat : Int))
  lt : b < W.heap.size
theorem RAt.new (w : World) (lo hi : UInt8) : RAt w.heap.size lo hi (w.alloc (.cells #[.int .u8 (lo.toNat : Int), .int .u8 (hi.toNat : Int)] 56)) := ⟨by simp [go_sem], by simp [go_sem], by simp⟩
theorem RAt.on {b : Nat} {lo hi : UInt8} {W W' : World} (h : RAt b lo hi W) (k : Below W.heap.size W W') : RAt b lo hi W' := ⟨(k.cell (p := ⟨b, 0, none⟩) h.lt).trans h.c0, (k.cell (p := ⟨b, 1, none⟩) h.lt).trans h.c1, Nat.lt_of_lt_of_le h.lt k.size⟩
/-- Only block g is written. -/
theorem RAt.past {b g : Nat} {lo hi : UInt8} {W W' : World} (h : RAt b lo hi W) (k : Apart g W W') (hg : b ≠ g) : RAt b lo hi W' := ⟨(k.cell (p := ⟨b, 0, none⟩) hg h.lt).trans h.c0, (k.cell (p := ⟨b, 1, none⟩) hg h.lt).trans h.c1, Nat.lt_of_lt_of_le h.lt k.1.size⟩
theorem put_apart {W : World} {g : Nat} {f : Nat → Bool} (_ : SB g f W) (f' : Nat → Bool) : Apart g W (W.setRow g (setA f')) :=
  ⟨below_setRow (Below.refl _ W) (Nat.le_refl _) _, fun k hk _ => setRow_other W g k _ (Nat.ne_of_gt hk)⟩
/-- What the region's operations leave. -/
def ClG (b : Nat) (lo hi : UInt8) (q : Nat) (s f : Nat → Bool) (k : Nat) (v : Value) (W : World) : Prop := match k with
  | 0 => ∃ g : Nat → Bool, v = .agg (setA g) ∧ ∀ c, (g c || s c) = (f c || s c)
  | 1 => v = .pointer (some ⟨b, 0, none⟩)
  | 2 => v = .int .u8 (lo.toNat : Int)
  | 3 => v = .pointer (some ⟨b, 1, none⟩)
  | 4 => v = .int .u8 (hi.toNat : Int)
  | 5 => v = .agg (setA s)
  | 6 => v = .agg (setA (fun c => f c || s c))
  | 7 => SB q (fun c => f c || s c) W
  | _ => True
theorem ClG.keep (b : Nat) (lo hi : UInt8) (q : Nat) (s f : Nat → Bool) : ∀ k v W W', (SB q (fun c => f c || s c) W → SB q (fun c => f c || s c) W') → ClG b lo hi q s f k v W → ClG b lo hi q s f k v W' := by
  intro k v W W' hR h
  unfold ClG at *
  split at h
  · exact h
  · exact h
  · exact h
  · exact h
  · exact h
  · exact h
  · exact h
  · exact hR h
  · trivial
/-- What stands throughout. -/
def ClI (w : World) (b : Nat) (lo hi : UInt8) (q : Nat) (s f : Nat → Bool) (W : World) : Prop := ∃ g : Nat → Bool, SB q g W ∧ (∀ c, (g c || s c) = (f c || s c)) ∧ RAt b lo hi W ∧ Below w.heap.size w W
set_option maxHeartbeats 8000000 in
set_option maxRecDepth 1000000 in
theorem clsw_any (rs : List (UInt8 × UInt8)) (v : Value) (w : World) (h : RgAt w rs v) (hl : rs.length ≤ 256) : Calls Tryz.prog 37 #[v] w fun e w' => e = .returned (.tuple #[.string ⟨(clsS rs).toArray⟩, .bool (clsB rs)]) ∧ Below w.heap.size w w' := by
  have hv := (zero_of_info infoS).1
  have HIT := Lib.hid (items_any rs v w h hl)
  have HG := Lib.hid h
  obtain ⟨a, c, rfl, hm, hk⟩ := h
  have hle : (itmS rs).length ≤ 1280 := by
    unfold itmS
    have := itmL_len rs
    split
    · omega
    · simp
  have HK := Lib.hid hk
  clear hk
  go_enter Tryz.func37, Tryz.ntmps37
  go_wp2_with fail
  refine HIT.out.mono ?_
  rintro e w1 ⟨rfl, hb⟩
  have HB1 := Lib.hid hb
  clear hb HIT
  cases hB : itmB rs with
  | true =>
    have HS : Hid (clsS rs = 91 :: (itmS rs ++ [93]) ∧ clsB rs = true) := Lib.hid ⟨by unfold clsS; rw [hB]; rfl, by unfold clsB; rw [hB]; rfl⟩
    obtain ⟨S, hS⟩ : ∃ S, itmS rs = S := ⟨_, rfl⟩
    rw [hS] at HS hle ⊢
    have n1 : ¬ 9223372036854775807 < 1 + S.length := by omega
    have n2 : ¬ 9223372036854775807 < 1 + S.length + 1 := by omega
    clear hB hS
    go_wp2_with fail
    all_goals try (exfalso; omega)
    go_ret2
    exact ⟨by rw [HS.out.1, HS.out.2, show (91 :: (S ++ [93])) = [91] ++ S ++ [93] by simp, ← ba_app, ← ba_app]; rfl, HB1.out⟩
  | false =>
    have HS : Hid (clsS rs = 91 :: 94 :: (itmS (negR rs) ++ [93]) ∧ clsB rs = itmB (negR rs)) := Lib.hid ⟨by unfold clsS; rw [hB]; rfl, by unfold clsB; rw [hB]; rfl⟩
    clear hB hle
    go_wp2_with fail
    rw [← setA_false]
    obtain ⟨q, hq⟩ : ∃ q, w1.heap.size = q := ⟨_, rfl⟩
    have HQW : Hid (w.heap.size ≤ q) := Lib.hid (hq ▸ HB1.out.size)
    have HS0 : Hid (SB q (uniF (rs.take 0)) (w1.alloc (.cells (setA (fun _ => false)) 94))) := Lib.hid (hq ▸ SB.new w1 _)
    have HB2 := Lib.hid (HB1.out.alloc HB1.out.size (.cells (setA (fun _ => false)) 94))
    rw [hq]
    clear hq HB1
    go_loopw [22] (fun i wr => ∃ k : Nat, i = .int .i64 k ∧ k ≤ rs.length ∧ Hid (SB q (uniF (rs.take k)) wr) ∧ Hid (Below w.heap.size w wr)) (fun i _ => rs.length - (intOf i).toNat)
    case atStart => exact ⟨0, rfl, by omega, HS0, HB2⟩
    case round =>
      obtain ⟨k, rfl, hkl, HSB, HB⟩ := hrel
      clear HS0 HB2
      by_cases hlt : k < rs.length
      · obtain ⟨blk, off, rfl, hbl, c0, c1⟩ := HK.out k hlt
        have e0 := (HB.out.cell (p := ⟨blk, off + k * 2, none⟩) hbl).trans c0
        have e1 := (HB.out.cell (p := ⟨blk, off + k * 2 + 1, none⟩) hbl).trans c1
        have i1 : (k : Int) < (rs.length : Int) := by omega
        have i2 : (0 : Int) ≤ (k : Int) := by omega
        have hlw : blk < wr.heap.size := Nat.lt_of_lt_of_le hbl HB.out.size
        have hw1 : IntKind.i64.wrap ((k : Int) + 1) = (k : Int) + 1 := IntWalk.i64_in _ (by omega)
        have HUN := Lib.hid (uniF_snoc rs k hlt)
        obtain ⟨r, hr⟩ : ∃ r, rs[k] = r := ⟨_, rfl⟩
        rw [hr] at e0 e1 HUN
        obtain ⟨lo, hi⟩ := r
        simp only at e0 e1
        clear c0 c1 hr
        go_wp2_with fail
        obtain ⟨f, hf⟩ : ∃ f, uniF (rs.take k) = f := ⟨_, rfl⟩
        rw [hf] at HSB HUN
        obtain ⟨s, hs⟩ : ∃ s, spanF lo.toNat (hi.toNat + 1) = s := ⟨_, rfl⟩
        simp only [hs] at HUN
        have HSP : Hid (∀ W, Calls Tryz.prog 52 #[.int .u8 (lo.toNat : Int), .int .u8 (hi.toNat : Int)] W fun e w' => e = .returned (.agg (setA s)) ∧ Below W.heap.size W w') := Lib.hid (by rw [← hs]; exact fun W => span_any lo hi W)
        have HRA := Lib.hid (show RAt wr.heap.size lo hi (wr.alloc (.cells #[.int .u8 (lo.toNat : Int), .int .u8 (hi.toNat : Int)] 56)) from RAt.new wr lo hi)
        have HSA := Lib.hid (HSB.out.on (al_below wr (.cells #[.int .u8 (lo.toNat : Int), .int .u8 (hi.toNat : Int)] 56)) HSB.out.lt)
        have HBA := Lib.hid (HB.out.alloc HB.out.size (.cells #[.int .u8 (lo.toNat : Int), .int .u8 (hi.toNat : Int)] 56))
        have HQR := Lib.hid HSB.out.lt
        clear hf hs
        refine wp_region_slots (by rfl) (by kernel_rfl) (by kernel_rfl) 45 [] [(0, .slice (some ⟨blk, off, none⟩) rs.length c), (1, undef), (2, .string ⟨#[]⟩), (3, .bool false), (4, .string ⟨(itmS rs).toArray⟩), (5, .bool false), (6, .pointer (some ⟨q, 0, none⟩)), (7, undef), (8, .pointer (some ⟨wr.heap.size, 0, none⟩)), (9, undef), (10, undef), (11, .tuple #[.string ⟨(itmS rs).toArray⟩, .bool false]), (12, .slice (some ⟨blk, off, none⟩) rs.length c), (13, .tuple #[.string ⟨(itmS rs).toArray⟩, .bool false]), (14, .string ⟨(itmS rs).toArray⟩), (15, .bool false), (16, .bool false), (17, undef), (18, undef), (19, undef), (20, .slice (some ⟨blk, off, none⟩) rs.length c), (21, .int .i64 (rs.length : Int)), (22, .int .i64 (k : Int)), (23, .bool true), (24, .pointer (some ⟨blk, off + k * 2, none⟩)), (25, .agg #[.int .u8 (lo.toNat : Int), .int .u8 (hi.toNat : Int)]), (34, undef), (35, undef), (36, undef), (37, undef), (38, undef), (39, undef), (40, undef), (41, undef), (42, undef), (43, undef), (44, undef)] (by kernel_rfl) (ClI w wr.heap.size lo hi q s f) (fun W W' => SB q (fun c => f c || s c) W → SB q (fun c => f c || s c) W') (ClG wr.heap.size lo hi q s f) (ClG.keep wr.heap.size lo hi q s f) ?_ ?_ ⟨rfl, rfl, fun s v hs => ?_, ⟨f, HSA.out.on (Below.refl _ _).drew HSA.out.lt, fun _ => rfl, HRA.out.on (Below.refl _ _).drew, HBA.out.drew⟩⟩
        case refine_1 =>
          intro i o ho ac W hB hd K hK
          have hi8 : i < 8 := (Array.getElem?_eq_some_iff.1 ho).1
          have hs6 : ac.tmps.getD 6 undef = Value.pointer (some ⟨q, 0, none⟩) := hB.fixed 6 _ (by simp)
          have hs8 : ac.tmps.getD 8 undef = Value.pointer (some ⟨wr.heap.size, 0, none⟩) := hB.fixed 8 _ (by simp)
          obtain ⟨g, hsb, hgs, hra, hbl⟩ := hB.inv
          have HSW := Lib.hid hsb
          have HRW := Lib.hid hra
          have HBW := Lib.hid hbl
          have HGS := Lib.hid hgs
          have HKK := Lib.hid hK
          have r0 := hra.c0
          have r1 := hra.c1
          clear hK hB hsb hra hbl hgs
          rcases (show i = 0 ∨ i = 1 ∨ i = 2 ∨ i = 3 ∨ i = 4 ∨ i = 5 ∨ i = 6 ∨ i = 7 by omega) with rfl | rfl | rfl | rfl | rfl | rfl | rfl | rfl
          · obtain rfl := Option.some.inj ho
            refine wp_load_set _ rfl q ((show ac.eval (Operand.tmp 6) = ac.tmps.getD 6 undef from rfl).trans hs6) g _ HSW.out ?_
            exact HKK.out _ _ (fun h => h) ⟨g, HSW.out, HGS.out, HRW.out, HBW.out⟩ ⟨g, rfl, HGS.out⟩
          · obtain rfl := Option.some.inj ho
            go_simp
            exact HKK.out _ _ (fun h => h) ⟨g, HSW.out, HGS.out, HRW.out, HBW.out⟩ rfl
          · obtain rfl := Option.some.inj ho
            have hd1 : ac.tmps.getD 27 undef = Value.pointer (some ⟨wr.heap.size, 0, none⟩) := hd ⟨1, .data⟩ (by simp) rfl
            go_simp
            exact HKK.out _ _ (fun h => h) ⟨g, HSW.out, HGS.out, HRW.out, HBW.out⟩ rfl
          · obtain rfl := Option.some.inj ho
            go_simp
            exact HKK.out _ _ (fun h => h) ⟨g, HSW.out, HGS.out, HRW.out, HBW.out⟩ rfl
          · obtain rfl := Option.some.inj ho
            have hd1 : ac.tmps.getD 29 undef = Value.pointer (some ⟨wr.heap.size, 1, none⟩) := hd ⟨3, .data⟩ (by simp) rfl
            go_simp
            exact HKK.out _ _ (fun h => h) ⟨g, HSW.out, HGS.out, HRW.out, HBW.out⟩ rfl
          · obtain rfl := Option.some.inj ho
            have hd1 : ac.tmps.getD 28 undef = Value.int .u8 (lo.toNat : Int) := hd ⟨2, .data⟩ (by simp) rfl
            have hd2 : ac.tmps.getD 30 undef = Value.int .u8 (hi.toNat : Int) := hd ⟨4, .data⟩ (by simp) rfl
            go_simp
            refine (HSP.out _).mono ?_
            rintro e W3 ⟨rfl, hb3⟩
            exact HKK.out _ _ (fun h => h.on hb3 h.lt) ⟨g, HSW.out.on hb3 HSW.out.lt, HGS.out, HRW.out.on hb3, HBW.out.trans (hb3.mono HBW.out.size)⟩ rfl
          · obtain rfl := Option.some.inj ho
            obtain ⟨g2, hd1, hg2⟩ : ∃ g2, ac.tmps.getD 26 undef = Value.agg (setA g2) ∧ ∀ c, (g2 c || s c) = (f c || s c) := hd ⟨0, .data⟩ (by simp) rfl
            have hd2 : ac.tmps.getD 31 undef = Value.agg (setA s) := hd ⟨5, .data⟩ (by simp) rfl
            have HG2 := Lib.hid hg2
            clear hg2
            go_simp
            refine (with_any g2 s _).mono ?_
            rintro e W3 ⟨rfl, hb3⟩
            exact HKK.out _ _ (fun h => h.on hb3 h.lt) ⟨g, HSW.out.on hb3 HSW.out.lt, HGS.out, HRW.out.on hb3, HBW.out.trans (hb3.mono HBW.out.size)⟩ (congrArg Value.agg (setA_congr fun c _ => HG2.out c))
          · obtain rfl := Option.some.inj ho
            have hd1 : ac.tmps.getD 32 undef = Value.agg (setA (fun c => f c || s c)) := hd ⟨6, .data⟩ (by simp) rfl
            have e9 := put_set HSW.out (fun c => f c || s c)
            have HB9 := Lib.hid (put_apart HSW.out (fun c => f c || s c))
            have H9 := Lib.hid (show SB q (fun c => f c || s c) (W.setRow q (setA (fun c => f c || s c))) from setRow_heap W q _ _ _ (0, 0) HSW.out)
            go_simp
            exact HKK.out _ _ (fun _ => H9.out) ⟨_, H9.out, fun c => by cases f c <;> cases s c <;> rfl, HRW.out.past HB9.out (Nat.ne_of_gt HQR.out), HBW.out.trans (HB9.out.1.mono HQW.out)⟩ H9.out
        case refine_2 =>
          intro ac W hB hG
          have HSE := Lib.hid (show SB q (fun c => f c || s c) W from hG 7 (by decide))
          obtain ⟨g, hsb, hgs, hra, hbl⟩ := hB.inv
          have HBW := Lib.hid hbl
          have hs0 : ac.tmps.getD 0 undef = Value.slice (some ⟨blk, off, none⟩) rs.length c := hB.fixed 0 _ (by simp)
          have hs1 : ac.tmps.getD 1 undef = undef := hB.fixed 1 _ (by simp)
          have hs2 : ac.tmps.getD 2 undef = Value.string ⟨#[]⟩ := hB.fixed 2 _ (by simp)
          have hs3 : ac.tmps.getD 3 undef = Value.bool false := hB.fixed 3 _ (by simp)
          have hs4 : ac.tmps.getD 4 undef = Value.string ⟨(itmS rs).toArray⟩ := hB.fixed 4 _ (by simp)
          have hs5 : ac.tmps.getD 5 undef = Value.bool false := hB.fixed 5 _ (by simp)
          have hs6 : ac.tmps.getD 6 undef = Value.pointer (some ⟨q, 0, none⟩) := hB.fixed 6 _ (by simp)
          have hs7 : ac.tmps.getD 7 undef = undef := hB.fixed 7 _ (by simp)
          have hs8 : ac.tmps.getD 8 undef = Value.pointer (some ⟨wr.heap.size, 0, none⟩) := hB.fixed 8 _ (by simp)
          have hs9 : ac.tmps.getD 9 undef = undef := hB.fixed 9 _ (by simp)
          have hs10 : ac.tmps.getD 10 undef = undef := hB.fixed 10 _ (by simp)
          have hs11 : ac.tmps.getD 11 undef = Value.tuple #[.string ⟨(itmS rs).toArray⟩, .bool false] := hB.fixed 11 _ (by simp)
          have hs12 : ac.tmps.getD 12 undef = Value.slice (some ⟨blk, off, none⟩) rs.length c := hB.fixed 12 _ (by simp)
          have hs13 : ac.tmps.getD 13 undef = Value.tuple #[.string ⟨(itmS rs).toArray⟩, .bool false] := hB.fixed 13 _ (by simp)
          have hs14 : ac.tmps.getD 14 undef = Value.string ⟨(itmS rs).toArray⟩ := hB.fixed 14 _ (by simp)
          have hs15 : ac.tmps.getD 15 undef = Value.bool false := hB.fixed 15 _ (by simp)
          have hs16 : ac.tmps.getD 16 undef = Value.bool false := hB.fixed 16 _ (by simp)
          have hs17 : ac.tmps.getD 17 undef = undef := hB.fixed 17 _ (by simp)
          have hs18 : ac.tmps.getD 18 undef = undef := hB.fixed 18 _ (by simp)
          have hs19 : ac.tmps.getD 19 undef = undef := hB.fixed 19 _ (by simp)
          have hs20 : ac.tmps.getD 20 undef = Value.slice (some ⟨blk, off, none⟩) rs.length c := hB.fixed 20 _ (by simp)
          have hs21 : ac.tmps.getD 21 undef = Value.int .i64 (rs.length : Int) := hB.fixed 21 _ (by simp)
          have hs22 : ac.tmps.getD 22 undef = Value.int .i64 (k : Int) := hB.fixed 22 _ (by simp)
          have hs23 : ac.tmps.getD 23 undef = Value.bool true := hB.fixed 23 _ (by simp)
          have hs24 : ac.tmps.getD 24 undef = Value.pointer (some ⟨blk, off + k * 2, none⟩) := hB.fixed 24 _ (by simp)
          have hs25 : ac.tmps.getD 25 undef = Value.agg #[.int .u8 (lo.toNat : Int), .int .u8 (hi.toNat : Int)] := hB.fixed 25 _ (by simp)
          have hs34 : ac.tmps.getD 34 undef = undef := hB.fixed 34 _ (by simp)
          have hs35 : ac.tmps.getD 35 undef = undef := hB.fixed 35 _ (by simp)
          have hs36 : ac.tmps.getD 36 undef = undef := hB.fixed 36 _ (by simp)
          have hs37 : ac.tmps.getD 37 undef = undef := hB.fixed 37 _ (by simp)
          have hs38 : ac.tmps.getD 38 undef = undef := hB.fixed 38 _ (by simp)
          have hs39 : ac.tmps.getD 39 undef = undef := hB.fixed 39 _ (by simp)
          have hs40 : ac.tmps.getD 40 undef = undef := hB.fixed 40 _ (by simp)
          have hs41 : ac.tmps.getD 41 undef = undef := hB.fixed 41 _ (by simp)
          have hs42 : ac.tmps.getD 42 undef = undef := hB.fixed 42 _ (by simp)
          have hs43 : ac.tmps.getD 43 undef = undef := hB.fixed 43 _ (by simp)
          have hs44 : ac.tmps.getD 44 undef = undef := hB.fixed 44 _ (by simp)
          clear hG hsb hgs hra hbl
          obtain ⟨tm, df⟩ := ac
          obtain ⟨y0, y1, y2, y3, y4, y5, y6, y7, y8, y9, y10, y11, y12, y13, y14, y15, y16, y17, y18, y19, y20, y21, y22, y23, y24, y25, y26, y27, y28, y29, y30, y31, y32, y33, y34, y35, y36, y37, y38, y39, y40, y41, y42, y43, y44, rfl⟩ := arr45 tm hB.size
          obtain rfl : df = [] := hB.defers
          obtain rfl : Value.slice (some ⟨blk, off, none⟩) rs.length c = y0 := by simpa using hs0.symm
          obtain rfl : undef = y1 := by simpa using hs1.symm
          obtain rfl : Value.string ⟨#[]⟩ = y2 := by simpa using hs2.symm
          obtain rfl : Value.bool false = y3 := by simpa using hs3.symm
          obtain rfl : Value.string ⟨(itmS rs).toArray⟩ = y4 := by simpa using hs4.symm
          obtain rfl : Value.bool false = y5 := by simpa using hs5.symm
          obtain rfl : Value.pointer (some ⟨q, 0, none⟩) = y6 := by simpa using hs6.symm
          obtain rfl : undef = y7 := by simpa using hs7.symm
          obtain rfl : Value.pointer (some ⟨wr.heap.size, 0, none⟩) = y8 := by simpa using hs8.symm
          obtain rfl : undef = y9 := by simpa using hs9.symm
          obtain rfl : undef = y10 := by simpa using hs10.symm
          obtain rfl : Value.tuple #[.string ⟨(itmS rs).toArray⟩, .bool false] = y11 := by simpa using hs11.symm
          obtain rfl : Value.slice (some ⟨blk, off, none⟩) rs.length c = y12 := by simpa using hs12.symm
          obtain rfl : Value.tuple #[.string ⟨(itmS rs).toArray⟩, .bool false] = y13 := by simpa using hs13.symm
          obtain rfl : Value.string ⟨(itmS rs).toArray⟩ = y14 := by simpa using hs14.symm
          obtain rfl : Value.bool false = y15 := by simpa using hs15.symm
          obtain rfl : Value.bool false = y16 := by simpa using hs16.symm
          obtain rfl : undef = y17 := by simpa using hs17.symm
          obtain rfl : undef = y18 := by simpa using hs18.symm
          obtain rfl : undef = y19 := by simpa using hs19.symm
          obtain rfl : Value.slice (some ⟨blk, off, none⟩) rs.length c = y20 := by simpa using hs20.symm
          obtain rfl : Value.int .i64 (rs.length : Int) = y21 := by simpa using hs21.symm
          obtain rfl : Value.int .i64 (k : Int) = y22 := by simpa using hs22.symm
          obtain rfl : Value.bool true = y23 := by simpa using hs23.symm
          obtain rfl : Value.pointer (some ⟨blk, off + k * 2, none⟩) = y24 := by simpa using hs24.symm
          obtain rfl : Value.agg #[.int .u8 (lo.toNat : Int), .int .u8 (hi.toNat : Int)] = y25 := by simpa using hs25.symm
          obtain rfl : undef = y34 := by simpa using hs34.symm
          obtain rfl : undef = y35 := by simpa using hs35.symm
          obtain rfl : undef = y36 := by simpa using hs36.symm
          obtain rfl : undef = y37 := by simpa using hs37.symm
          obtain rfl : undef = y38 := by simpa using hs38.symm
          obtain rfl : undef = y39 := by simpa using hs39.symm
          obtain rfl : undef = y40 := by simpa using hs40.symm
          obtain rfl : undef = y41 := by simpa using hs41.symm
          obtain rfl : undef = y42 := by simpa using hs42.symm
          obtain rfl : undef = y43 := by simpa using hs43.symm
          obtain rfl : undef = y44 := by simpa using hs44.symm
          clear hB
          go_wp2_with fail
          exact ⟨⟨k + 1, by go_num, by omega, Lib.hid (by rw [HUN.out]; exact HSE.out), HBW⟩, by simp [intOf]; omega⟩
        case refine_3 =>
          simp only [List.mem_cons, Prod.mk.injEq, List.not_mem_nil, or_false] at hs
          rcases hs with ⟨rfl, rfl⟩ | ⟨rfl, rfl⟩ | ⟨rfl, rfl⟩ | ⟨rfl, rfl⟩ | ⟨rfl, rfl⟩ | ⟨rfl, rfl⟩ | ⟨rfl, rfl⟩ | ⟨rfl, rfl⟩ | ⟨rfl, rfl⟩ | ⟨rfl, rfl⟩ | ⟨rfl, rfl⟩ | ⟨rfl, rfl⟩ | ⟨rfl, rfl⟩ | ⟨rfl, rfl⟩ | ⟨rfl, rfl⟩ | ⟨rfl, rfl⟩ | ⟨rfl, rfl⟩ | ⟨rfl, rfl⟩ | ⟨rfl, rfl⟩ | ⟨rfl, rfl⟩ | ⟨rfl, rfl⟩ | ⟨rfl, rfl⟩ | ⟨rfl, rfl⟩ | ⟨rfl, rfl⟩ | ⟨rfl, rfl⟩ | ⟨rfl, rfl⟩ | ⟨rfl, rfl⟩ | ⟨rfl, rfl⟩ | ⟨rfl, rfl⟩ | ⟨rfl, rfl⟩ | ⟨rfl, rfl⟩ | ⟨rfl, rfl⟩ | ⟨rfl, rfl⟩ | ⟨rfl, rfl⟩ | ⟨rfl, rfl⟩ | ⟨rfl, rfl⟩ | ⟨rfl, rfl⟩ <;> rfl
      · have z1 : decide ((k : Int) < (rs.length : Int)) = false := decide_eq_false (by omega)
        have y1 : decide (k < rs.length) = false := decide_eq_false hlt
        have hk2 : rs.take k = rs := List.take_of_length_le (by omega)
        have HSF : Hid (SB q (uniF rs) wr) := Lib.hid (by have := HSB.out; rwa [hk2] at this)
        have hld := HSF.out
        clear hk2
        go_wp2_with (refine wpl_load_set rfl _ rfl q rfl _ hld ?_)
        refine (not_any _ _).mono ?_
        rintro e w2 ⟨rfl, hb⟩
        have HB2 := Lib.hid (HB.out.trans (hb.mono HB.out.size))
        clear hb hld
        go_wp2_with fail
        refine (ranges_any _ _).mono ?_
        rintro e w3 ⟨v2, rfl, hor, hb⟩
        have HB3 := Lib.hid (HB2.out.trans (hb.mono HB2.out.size))
        have hrg := or_rg hor
        clear hb hor
        go_wp2_with fail
        refine (items_any (negR rs) _ _ hrg (rngs_len _)).mono ?_
        rintro e w4 ⟨rfl, hb⟩
        have HB4 := Lib.hid (HB3.out.trans (hb.mono HB3.out.size))
        have hle : (itmS (negR rs)).length ≤ 1280 := itmS_len (rngs_len _)
        obtain ⟨S, hS⟩ : ∃ S, itmS (negR rs) = S := ⟨_, rfl⟩
        rw [hS] at HS hle ⊢
        have n1 : ¬ 9223372036854775807 < 2 + S.length := by omega
        have n2 : ¬ 9223372036854775807 < 2 + S.length + 1 := by omega
        clear hb hS
        go_wp2_with fail
        all_goals try (exfalso; omega)
        go_ret2
        exact ⟨by rw [HS.out.1, HS.out.2, show (91 :: 94 :: (S ++ [93])) = [91, 94] ++ S ++ [93] by simp, ← ba_app, ← ba_app]; rfl, HB4.out⟩
end Go.Proofs.YtphbkompnddflaaGreatDoor
/-
  The writer: its cells, bytes and strings written into it.
-/
namespace Go.Proofs.YtphbkompnddflaaGreatDoor
open Go.RowKit

theorem infoB : (Tryz.prog.info? 60).map (fun j => j.size) = some 2 := by kernel_rfl
theorem liesB : liesAt Tryz.prog Tryz.prog.depth 62 (3 / Tryz.prog.cellsOf 62) 0 60 1 = true := by kernel_rfl
/-- The writer in block g: what it has written, whether a class could not be written. -/
structure WK (g : Nat) (bs : List UInt8) (wr : Bool) (w : World) : Prop where
  blk : ∃ p v, w.heap[g]? = some (.cells #[.pointer p, v, .bool wr] 62 (0, 0)) ∧ (p = none ∨ p = some ⟨g, 0, none⟩) ∧ w.ownsRow (g + 1) 5 1 v bs.length (Lib.byteCells bs)
/-- What a call of the writer's leaves alone: what lies below the writer, and all but rows of bytes. -/
structure WF (g : Nat) (w w' : World) : Prop where
  bl : Below g w w'
  ot : Lib.OthersKept 5 (some g) w w'
theorem WF.refl (g : Nat) (w : World) : WF g w w := ⟨Below.refl _ _, Lib.OthersKept.refl _ _ _⟩
theorem WF.trans {g : Nat} {a b c : World} (h : WF g a b) (k : WF g b c) : WF g a c := ⟨h.bl.trans k.bl, h.ot.trans k.ot⟩
theorem oth_below {e : TypeId} {b : Option Nat} {w w' : World} (h : Below w.heap.size w w') : Lib.OthersKept e b w w' := fun k _ hk _ _ => (h.block k (Array.getElem?_eq_some_iff.1 hk).1).trans hk
theorem WF.of_below {g : Nat} {w w' : World} (h : Below w.heap.size w w') (hg : g < w.heap.size) : WF g w w' := ⟨h.mono (Nat.le_of_lt hg), oth_below h⟩
theorem WK.lt {g : Nat} {bs : List UInt8} {wr : Bool} {w : World} (h : WK g bs wr w) : g < w.heap.size := by
  obtain ⟨p, v, hb, _⟩ := h.blk
  exact (Array.getElem?_eq_some_iff.1 hb).1
theorem WK.on {g : Nat} {bs : List UInt8} {wr : Bool} {w w' : World} (h : WK g bs wr w) (k : Below w.heap.size w w') : WK g bs wr w' := by
  obtain ⟨p, v, hb, hp, ho⟩ := h.blk
  exact ⟨p, v, (k.block g h.lt).trans hb, hp, own_at ho fun j hj => k.block j (ho.lt j hj).2⟩
theorem kind_row {w : World} {B : Nat} {e : TypeId} {v : Value} {n : Nat} {xs : List Value} (h : w.ownsRow B e 1 v n xs) : ∀ g, v.ownBlock = some g → ∃ c fz, w.heap[g]? = some (.cells c e fz) :=
  Lib.ownsRowF_kind (World.ownsRowF_of h)

set_option maxHeartbeats 1000000 in
set_option maxRecDepth 100000 in
theorem wcopy_used (b : Nat) (w : World) (h0 : w.cell? ⟨b, 0, none⟩ = some (.pointer (some ⟨b, 0, none⟩))) :
    Calls Tryz.prog 49 #[.pointer (some ⟨b, 0, none⟩)] w fun e w' => e = .returned (.tuple #[]) ∧ w = w' := by
  obtain ⟨j, hj, _⟩ := Option.map_eq_some_iff.1 infoB
  go_enter Tryz.func49, Tryz.ntmps49
  go_wp2
  rw [Lib.run_neq_ptr_same w _ Tryz.underlying58 hj]
  go_wp2
  go_end0
  exact ⟨rfl, rfl⟩
set_option maxHeartbeats 1000000 in
set_option maxRecDepth 100000 in
theorem wcopy_fresh (b : Nat) (w : World) (h0 : w.cell? ⟨b, 0, none⟩ = some (.pointer none)) (hsh : w.shape? b = some (62, 3)) (hfz : w.frozen? ⟨b, 0, none⟩ = false) :
    Calls Tryz.prog 49 #[.pointer (some ⟨b, 0, none⟩)] w fun e w' => e = .returned (.tuple #[]) ∧ w.setCell ⟨b, 0, none⟩ (.pointer (some ⟨b, 0, none⟩)) = w' := by
  obtain ⟨j, hj, hjs⟩ := Option.map_eq_some_iff.1 infoB
  go_enter Tryz.func49, Tryz.ntmps49
  go_wp2
  rw [Lib.run_to_unsafe w ⟨b, 0, none⟩ Tryz.underlying58 Tryz.underlying105 hj (by rw [hjs]; decide) hsh (Nat.zero_lt_succ 2)]
  simp only [Result.andThen]
  rw [Oper.upon_value]
  go_wp2
  rw [run_callFunc_extern Tryz.func66 (by kernel_rfl) (by kernel_rfl) (by kernel_rfl) (e := Extern.AbiNoEscape.same) (by kernel_rfl)]
  rw [Lib.run_noEscape]
  simp only [Result.andThen]
  rw [Oper.upon_value]
  go_wp2
  rw [Lib.run_from_unsafe w ⟨b, 0, none⟩ Tryz.underlying105 Tryz.underlying58 hj hsh liesB]
  simp only [Result.andThen]
  rw [Oper.upon_value]
  go_wp2
  go_end0
  exact ⟨rfl, rfl⟩
/-- The writer once it has been used. -/
def WU (g : Nat) (v : Value) (bs : List UInt8) (wr : Bool) (w : World) : Prop := w.heap[g]? = some (.cells #[.pointer (some ⟨g, 0, none⟩), v, .bool wr] 62 (0, 0)) ∧ w.ownsRow (g + 1) 5 1 v bs.length (Lib.byteCells bs)
theorem wcopy_any (g : Nat) (bs : List UInt8) (wr : Bool) (w : World) (h : WK g bs wr w) :
    Calls Tryz.prog 49 #[.pointer (some ⟨g, 0, none⟩)] w fun e w' => e = .returned (.tuple #[]) ∧ (∃ v, WU g v bs wr w') ∧ WF g w w' := by
  obtain ⟨p, v, hb, hp, ho⟩ := h.blk
  have c0 : w.cell? ⟨g, 0, none⟩ = some (.pointer p) := by rw [Lib.cell_of_heap hb]; rfl
  rcases hp with rfl | rfl
  · refine (wcopy_fresh g w c0 (by simp [World.shape?, hb]) (Lib.frozen_of_heap hb 0)).mono ?_
    rintro e w' ⟨rfl, rfl⟩
    refine ⟨rfl, ⟨v, ?_, ?_⟩, (Below.refl _ _).setCell (p := ⟨g, 0, none⟩) (Nat.le_refl _) _, Lib.OthersKept.setCell (Lib.OthersKept.refl _ _ _) ⟨g, 0, none⟩ rfl _⟩
    · exact heap_setCell_same w g 0 _ _ _ hb
    · exact own_at ho fun k hk => Below.heap_setCell _ _ _ k (by have := (ho.lt k hk).1; simp; omega)
  · refine (wcopy_used g w c0).mono ?_
    rintro e w' ⟨rfl, rfl⟩
    exact ⟨rfl, ⟨v, hb, ho⟩, WF.refl _ _⟩
theorem WU.on {g : Nat} {v : Value} {bs : List UInt8} {wr : Bool} {w w' : World} (h : WU g v bs wr w) (k : Below w.heap.size w w') : WU g v bs wr w' :=
  ⟨(k.block g (Array.getElem?_eq_some_iff.1 h.1).1).trans h.1, own_at h.2 fun j hj => k.block j (h.2.lt j hj).2⟩
theorem row_form {W : World} {B : Nat} {v : Value} {n : Nat} {xs : List Value} (h : W.ownsRow B 5 1 v n xs) : ∃ a cap, v = .slice a n cap := by
  rcases h.2 with ⟨h1, h0⟩ | ⟨g, cap, cur, h1, _⟩
  · exact ⟨none, 0, by rw [h1, h0]⟩
  · exact ⟨_, cap, h1⟩
theorem wu_put {g : Nat} {v v' : Value} {bs bs' : List UInt8} {wr : Bool} {w w1 w2 : World} (h : WU g v bs wr w1) (hf : WF g w w1) (hgr : w1.grownBy w2 v.ownBlock) (ho : w2.ownsRow (g + 1) 5 1 v' bs'.length (Lib.byteCells bs')) :
    WK g bs' wr (w2.setCell ⟨g, 1, none⟩ v') ∧ WF g w (w2.setCell ⟨g, 1, none⟩ v') ∧ w2.cell? ⟨g, 1, none⟩ = some v ∧ w2.frozen? ⟨g, 1, none⟩ = false := by
  obtain ⟨hb, hrow⟩ := h
  have hlt : g < w1.heap.size := (Array.getElem?_eq_some_iff.1 hb).1
  have hb2 : w2.heap[g]? = _ := (hgr.block g hlt (fun e => by have := (hrow.lt g e.symm).1; omega)).trans hb
  refine ⟨⟨_, v', heap_setCell_same w2 g 1 _ _ _ hb2, .inr rfl, own_at ho fun k hk => Below.heap_setCell _ _ _ k (by have := (ho.lt k hk).1; simp; omega)⟩, ⟨?_, ?_⟩, by rw [Lib.cell_of_heap hb2]; rfl, Lib.frozen_of_heap hb2 1⟩
  · exact ((hf.bl.trans ((Below.refl _ w1).grown hgr (Nat.le_of_lt hlt) (fun k hk => by have := (hrow.lt k hk).1; omega)))).setCell (p := ⟨g, 1, none⟩) (Nat.le_refl _) _
  · exact (hf.ot.grown hgr (kind_row hrow)).setCell ⟨g, 1, none⟩ rfl _

set_option maxHeartbeats 4000000 in
set_option maxRecDepth 100000 in
theorem wbyte_any (g : Nat) (bs : List UInt8) (wr : Bool) (c : UInt8) (w : World) (h : WK g bs wr w) (hlen : bs.length ≤ 10000000) :
    Calls Tryz.prog 36 #[.pointer (some ⟨g, 0, none⟩), .int .u8 (c.toNat : Int)] w fun e w' => e = .returned .nilIface ∧ WK g (bs ++ [c]) wr w' ∧ WF g w w' := by
  obtain ⟨i0, hi, hz0, hz1, hz2⟩ := info_parts info5
  have HC := Lib.hid (wcopy_any g bs wr w h)
  clear h
  go_enter Tryz.func36, Tryz.ntmps36
  go_wp2_with fail
  refine HC.out.mono ?_
  rintro e w1 ⟨rfl, ⟨v, hu⟩, hf⟩
  have HU := Lib.hid hu
  have HF := Lib.hid hf
  obtain ⟨hbk, hown⟩ := hu
  have hlt : g < w1.heap.size := (Array.getElem?_eq_some_iff.1 hbk).1
  have c1 : w1.cell? ⟨g, 1, none⟩ = some v := by rw [Lib.cell_of_heap hbk]; rfl
  clear hbk hf
  go_wp2_with (at_builtin; refine wpList_append_own _ rfl _ _ 26 rfl (g + 1) 5 i0 (.int .u8 0) 1 1 Tryz.underlying26 hi hz0 hz1 hz2 rfl (by decide) _ _ _ rfl (hown.alloc _) ⟨w1.heap.size, 0, none⟩ 1 1 [.int .u8 (c.toNat : Int)] rfl rfl ?c1 ?c2 ?c3 ?c4 ?c5 ?_)
  case c1 =>
    intro j u hj
    match j, hj with
    | 0, hj => simp at hj; subst hj; simp [Addr.add]
  case c2 => intro u hu; simp at hu; subst hu; rfl
  case c3 => unfold maxLen; omega
  case c4 => omega
  case c5 => simp; omega
  intro v' w2 hown' hgrow _
  have hA := al_below w1 (.cells #[.int .u8 (c.toNat : Int)] 5)
  have hP := wu_put (bs' := bs ++ [c]) (HU.out.on hA) (HF.out.trans (WF.of_below hA hlt)) hgrow (by simpa [Lib.byteCells] using hown')
  obtain ⟨a', cap', rfl⟩ := row_form hown'
  have HP1 := Lib.hid hP.1
  have HP2 := Lib.hid hP.2.1
  have d1 := hP.2.2.1
  have f1 := hP.2.2.2
  clear hP hown' hgrow hA hown
  go_wp2_with fail
  go_ret
  exact ⟨rfl, HP1.out, HP2.out⟩
set_option maxHeartbeats 4000000 in
set_option maxRecDepth 100000 in
theorem wstr_any (g : Nat) (bs : List UInt8) (wr : Bool) (l : List UInt8) (w : World) (h : WK g bs wr w) (hlen : bs.length ≤ 10000000) (hl : l.length ≤ 10000000) :
    Calls Tryz.prog 35 #[.pointer (some ⟨g, 0, none⟩), .string ⟨l.toArray⟩] w fun e w' => e = .returned (.tuple #[.int .i64 (l.length : Int), .nilIface]) ∧ WK g (bs ++ l) wr w' ∧ WF g w w' := by
  obtain ⟨i0, hi, hz0, hz1, hz2⟩ := info_parts info5
  have HC := Lib.hid (wcopy_any g bs wr w h)
  clear h
  go_enter Tryz.func35, Tryz.ntmps35
  go_wp2_with fail
  refine HC.out.mono ?_
  rintro e w1 ⟨rfl, ⟨v, hu⟩, hf⟩
  have HU := Lib.hid hu
  have HF := Lib.hid hf
  obtain ⟨hbk, hown⟩ := hu
  have hlt : g < w1.heap.size := (Array.getElem?_eq_some_iff.1 hbk).1
  have c1 : w1.cell? ⟨g, 1, none⟩ = some v := by rw [Lib.cell_of_heap hbk]; rfl
  have hsz : (ByteArray.mk l.toArray).size = l.length := by simp [ByteArray.size]
  have hsc : Lib.strCells ⟨l.toArray⟩ = Lib.byteCells l := by simp [Lib.strCells, Lib.byteCells]
  clear hbk hf
  go_wp2_with (at_builtin; refine Lib.wpList_append_own_string _ rfl _ _ 26 9 rfl (g + 1) 5 i0 Tryz.underlying26 Tryz.underlying9 hi hz0 hz1 hz2 _ _ _ rfl hown ⟨l.toArray⟩ rfl ?c3 ?c4 ?c5 ?_)
  case c3 => rw [hsz]; unfold maxLen; omega
  case c4 => rw [hsz]; omega
  case c5 => omega
  intro v' w2 hown' hgrow _
  have hP := wu_put (bs' := bs ++ l) HU.out HF.out hgrow (by simpa [Lib.byteCells] using hown')
  obtain ⟨a', cap', rfl⟩ := row_form hown'
  have HP1 := Lib.hid hP.1
  have HP2 := Lib.hid hP.2.1
  have d1 := hP.2.2.1
  have f1 := hP.2.2.2
  clear hP hown' hgrow hown
  go_wp2_with fail
  go_ret2
  exact ⟨rfl, HP1.out, HP2.out⟩
set_option maxHeartbeats 4000000 in
set_option maxRecDepth 100000 in
theorem wlen_any (g : Nat) (bs : List UInt8) (wr : Bool) (w : World) (h : WK g bs wr w) :
    Calls Tryz.prog 23 #[.pointer (some ⟨g, 0, none⟩)] w fun e w' => e = .returned (.int .i64 (bs.length : Int)) ∧ w = w' := by
  obtain ⟨p, v, hb, _, ho⟩ := h.blk
  have hform : ∃ a cap, v = .slice a bs.length cap := by
    rcases ho.2 with ⟨h1, h0⟩ | ⟨g', cap, cur, h1, _⟩
    · exact ⟨none, 0, by rw [h1, h0]⟩
    · exact ⟨_, cap, h1⟩
  obtain ⟨a, cap, rfl⟩ := hform
  have c1 : w.cell? ⟨g, 1, none⟩ = some (.slice a bs.length cap) := by rw [Lib.cell_of_heap hb]; rfl
  clear hb ho h
  go_enter Tryz.func23, Tryz.ntmps23
  go_wp2_with fail
  go_ret
  exact ⟨rfl, rfl⟩
theorem cellsU8w : Tryz.prog.cellsOf 5 = 1 := by kernel_rfl
set_option maxHeartbeats 4000000 in
set_option maxRecDepth 100000 in
theorem wstring_any (g : Nat) (l : List UInt8) (wr : Bool) (w : World) (h : WK g l wr w) (h0 : l ≠ []) :
    Calls Tryz.prog 24 #[.pointer (some ⟨g, 0, none⟩)] w fun e w' => e = .returned (.string ⟨l.toArray⟩) ∧ Below g w w' := by
  obtain ⟨p, v, hbk, _, hown⟩ := h.blk
  have hl0 : l.length ≠ 0 := by simpa using h0
  obtain ⟨q, cap, cur, rfl, hgq, hq, hnc, hcm, hcs, htake⟩ : ∃ q cap cur, v = .slice (some ⟨q, 0, none⟩) l.length cap ∧ g + 1 ≤ q ∧ w.heap[q]? = some (.cells cur 5 (0, 0)) ∧ l.length ≤ cap ∧ cap ≤ maxLen ∧ cur.size = cap * 1 ∧ cur.toList.take (l.length * 1) = Lib.byteCells l := by
    rcases hown.2 with ⟨_, hz⟩ | ⟨q, cap, cur, hv, r⟩
    · exact absurd hz hl0
    · exact ⟨q, cap, cur, hv, r⟩
  have c1 : w.drew.cell? ⟨g, 1, none⟩ = some (.slice (some ⟨q, 0, none⟩) l.length cap) := by
    have : w.drew.heap[g]? = some (.cells #[.pointer p, .slice (some ⟨q, 0, none⟩) l.length cap, .bool wr] 62 (0, 0)) := hbk
    rw [Lib.cell_of_heap this]; rfl
  have hSD : (Builtin.unsafeSliceData_ #[26] 84 #[.slice (some ⟨q, 0, none⟩) l.length cap]).run Tryz.prog w.drew = .ok (.pointer (some ⟨q, 0, none⟩)) w.drew :=
    Lib.run_unsafeSliceData_row _ _ _ _ _ _ (by omega)
  have hUS : (Builtin.unsafeString_ #[84, 3] 9 #[.pointer (some ⟨q, 0, none⟩), .int .i64 l.length]).run Tryz.prog w.drew = .ok (.string ⟨l.toArray⟩) (w.drew.freeze ⟨q, 0, none⟩ l.length) := by
    refine Lib.run_unsafeString_row w.drew 84 3 9 5 Tryz.underlying84 cellsU8w q cur.size (by have hg' : w.drew.heap[q]? = some (.cells cur 5 (0, 0)) := hq; simp [World.shape?, hg']) l h0 (by omega) (by unfold maxLen at hcm; omega) ?_
    intro j x hx
    have := hown.cells (g := q) rfl j (.int .u8 x.toNat) (by simp [Lib.byteCells, hx])
    exact this
  have HB := Lib.hid (Lib.below_freeze (Below.drew (Below.refl g w)) (p := ⟨q, 0, none⟩) (show g ≤ q by omega) l.length)
  clear hown hbk hq h
  go_enter Tryz.func24, Tryz.ntmps24
  have mixed : Tryz.prog.follows .mixedOrders = true := by rfl
  go_wp2
  go_region_o
  all_goals (go_wp2; go_ret; exact ⟨rfl, HB.out⟩)
end Go.Proofs.YtphbkompnddflaaGreatDoor
/- CONTRACTS OF Go's LIBRARY, laid at this translation by the kit's tool. -/
namespace Go.Proofs
open Go.Shelf
def Tryz.lays170_ren : Go.Shelf.Ren := ⟨fun | 170 => 23 | n => n, fun | 70 => 58 | 3 => 3 | 0 => 0 | 72 => 60 | 37 => 26 | 5 => 5 | n => n, fun | n => n⟩
theorem Tryz.lays170 : Go.Proofs.Lays.n170 Tryz.prog Tryz.lays170_ren := {
  mixed := by kernel_rfl
  f170 := Tryz.func23.trans (congrArg some (by kernel_rfl))
  t0 := Tryz.underlying0
  a0 := Tryz.isAgg0
  z0 := Tryz.sizeOf0
  v0 := Tryz.zeroValue0
  t3 := Tryz.underlying3
  a3 := Tryz.isAgg3
  z3 := Tryz.sizeOf3
  v3 := Tryz.zeroValue3
  t37 := Tryz.underlying26
  a37 := Tryz.isAgg26
  z37 := Tryz.sizeOf26
  v37 := Tryz.zeroValue26
  t70 := Tryz.underlying58
  a70 := Tryz.isAgg58
  z70 := Tryz.sizeOf58
  v70 := Tryz.zeroValue58
  t72 := Tryz.underlying60
  a72 := Tryz.isAgg60
  z72 := Tryz.sizeOf60
  v72 := Tryz.zeroValue60 }
open Go.RowKit in
theorem Tryz.Builder_Len (B b : Nat) (bs : List Value) (w : World) (h : Lib.IsBuilder 60 5 B b bs w) :
    Calls Tryz.prog 23 #[.pointer (some ⟨b, 0, none⟩)] w fun e w' => e = .returned (.int .i64 bs.length) ∧ w' = w := Any.Builder_Len Tryz.lays170 B b bs w h
def Tryz.lays169_ren : Go.Shelf.Ren := ⟨fun | 169 => 24 | n => n, fun | 70 => 58 | 9 => 9 | 0 => 0 | 72 => 60 | 37 => 26 | 127 => 84 | 3 => 3 | 5 => 5 | n => n, fun | n => n⟩
theorem Tryz.lays169 : Go.Proofs.Lays.n169 Tryz.prog Tryz.lays169_ren := {
  mixed := by kernel_rfl
  f169 := Tryz.func24.trans (congrArg some (by kernel_rfl))
  t0 := Tryz.underlying0
  a0 := Tryz.isAgg0
  z0 := Tryz.sizeOf0
  v0 := Tryz.zeroValue0
  t3 := Tryz.underlying3
  a3 := Tryz.isAgg3
  z3 := Tryz.sizeOf3
  v3 := Tryz.zeroValue3
  t9 := Tryz.underlying9
  a9 := Tryz.isAgg9
  z9 := Tryz.sizeOf9
  v9 := Tryz.zeroValue9
  t37 := Tryz.underlying26
  a37 := Tryz.isAgg26
  z37 := Tryz.sizeOf26
  v37 := Tryz.zeroValue26
  t70 := Tryz.underlying58
  a70 := Tryz.isAgg58
  z70 := Tryz.sizeOf58
  v70 := Tryz.zeroValue58
  t72 := Tryz.underlying60
  a72 := Tryz.isAgg60
  z72 := Tryz.sizeOf60
  v72 := Tryz.zeroValue60
  t127 := Tryz.underlying84
  a127 := Tryz.isAgg84
  z127 := Tryz.sizeOf84
  v127 := Tryz.zeroValue84 }
theorem Tryz.Builder_Extra_169 : Builder.Extra Tryz.prog Tryz.lays169_ren := {
  sizeBuilder := by kernel_rfl
  liesBuilder := by kernel_rfl
  t5 := Tryz.underlying5
  a5 := Tryz.isAgg5
  z5 := Tryz.sizeOf5
  v5 := Tryz.zeroValue5
  infoByte := by kernel_rfl
  cellsByte := by kernel_rfl
  sizeByte := by kernel_rfl
  neB5 := by decide }
open Go.RowKit in
theorem Tryz.Builder_String (B b : Nat) (l : List UInt8) (w : World) (h : Lib.IsBuilder 60 5 B b (Lib.byteCells l) w) (h0 : l ≠ []) :
    Calls Tryz.prog 24 #[.pointer (some ⟨b, 0, none⟩)] w fun e w' => e = .returned (.string ⟨l.toArray⟩) ∧ Below B w w' := Any.Builder_String Tryz.lays169 Tryz.Builder_Extra_169 B b l w h h0
open Go.RowKit in
theorem Tryz.Builder_String_empty (B b : Nat) (w : World) (h : Lib.IsBuilder 60 5 B b [] w) (hBw : B ≤ w.heap.size) :
    Calls Tryz.prog 24 #[.pointer (some ⟨b, 0, none⟩)] w fun e w' => e = .returned (.string ⟨#[]⟩) ∧ Below B w w' := Any.Builder_String_empty Tryz.lays169 Tryz.Builder_Extra_169 B b w h hBw
open Go.RowKit in
theorem Tryz.Builder_String_any (B b : Nat) (l : List UInt8) (w : World) (h : Lib.IsBuilder 60 5 B b (Lib.byteCells l) w) (hBw : B ≤ w.heap.size) :
    Calls Tryz.prog 24 #[.pointer (some ⟨b, 0, none⟩)] w fun e w' => e = .returned (.string ⟨l.toArray⟩) ∧ Below B w w' := Any.Builder_String_any Tryz.lays169 Tryz.Builder_Extra_169 B b l w h hBw
def Tryz.lays137_ren : Go.Shelf.Ren := ⟨fun | 137 => 76 | 217 => 86 | 266 => 95 | n => n, fun | 9 => 9 | 5 => 5 | 3 => 3 | n => n, fun | n => n⟩
theorem Tryz.lays137 : Go.Proofs.Lays.n137 Tryz.prog Tryz.lays137_ren := {
  mixed := by kernel_rfl
  f137 := Tryz.func76.trans (congrArg some (by kernel_rfl))
  f217 := Tryz.func86.trans (congrArg some (by kernel_rfl))
  f266 := Tryz.func95.trans (congrArg some (by kernel_rfl))
  t3 := Tryz.underlying3
  a3 := Tryz.isAgg3
  z3 := Tryz.sizeOf3
  v3 := Tryz.zeroValue3
  t5 := Tryz.underlying5
  a5 := Tryz.isAgg5
  z5 := Tryz.sizeOf5
  v5 := Tryz.zeroValue5
  t9 := Tryz.underlying9
  a9 := Tryz.isAgg9
  z9 := Tryz.sizeOf9
  v9 := Tryz.zeroValue9 }
open Go.RowKit in
theorem Tryz.strings_IndexByte (s : ByteArray) (c : Int) (w : World) :
    Calls Tryz.prog 76 #[.string s, .int .u8 c] w fun e w' => e = .returned (.int .i64 (Lib.indexByte s.data.toList c.toNat.toUInt8)) ∧ w' = w := Any.strings_IndexByte Tryz.lays137 s c w
open Go.RowKit in
theorem Tryz.Builder_Len_f (B b : Nat) (bs : List Value) (w : World) (h : Lib.IsBuilderF 60 5 B b bs w) :
    Calls Tryz.prog 23 #[.pointer (some ⟨b, 0, none⟩)] w fun e w' => e = .returned (.int .i64 bs.length) ∧ w' = w := Any.Builder_Len_f Tryz.lays170 B b bs w h
open Go.RowKit in
theorem Tryz.Builder_String_f (B b : Nat) (l : List UInt8) (w : World) (h : Lib.IsBuilderF 60 5 B b (Lib.byteCells l) w) (h0 : l ≠ []) :
    Calls Tryz.prog 24 #[.pointer (some ⟨b, 0, none⟩)] w fun e w' => e = .returned (.string ⟨l.toArray⟩) ∧ (Lib.IsBuilderF 60 5 B b (Lib.byteCells l) w' ∧ Below B w w') := Any.Builder_String_f Tryz.lays169 Tryz.Builder_Extra_169 B b l w h h0
open Go.RowKit in
theorem Tryz.Builder_String_empty_f (B b : Nat) (w : World) (h : Lib.IsBuilderF 60 5 B b [] w) (hBw : B ≤ w.heap.size) :
    Calls Tryz.prog 24 #[.pointer (some ⟨b, 0, none⟩)] w fun e w' => e = .returned (.string ⟨#[]⟩) ∧ (Lib.IsBuilderF 60 5 B b [] w' ∧ Below B w w') := Any.Builder_String_empty_f Tryz.lays169 Tryz.Builder_Extra_169 B b w h hBw
open Go.RowKit in
theorem Tryz.Builder_String_any_f (B b : Nat) (l : List UInt8) (w : World) (h : Lib.IsBuilderF 60 5 B b (Lib.byteCells l) w) (hBw : B ≤ w.heap.size) :
    Calls Tryz.prog 24 #[.pointer (some ⟨b, 0, none⟩)] w fun e w' => e = .returned (.string ⟨l.toArray⟩) ∧ (Lib.IsBuilderF 60 5 B b (Lib.byteCells l) w' ∧ Below B w w') := Any.Builder_String_any_f Tryz.lays169 Tryz.Builder_Extra_169 B b l w h hBw
open Go.RowKit in
theorem Tryz.Builder_String_k (B b : Nat) (l : List UInt8) (w : World) (h : Lib.IsBuilderF 60 5 B b (Lib.byteCells l) w) (h0 : l ≠ []) :
    Calls Tryz.prog 24 #[.pointer (some ⟨b, 0, none⟩)] w fun e w' => e = .returned (.string ⟨l.toArray⟩) ∧ (Lib.IsBuilderF 60 5 B b (Lib.byteCells l) w' ∧ Below B w w' ∧ Lib.OthersKept 5 (some b) w w') := Any.Builder_String_k Tryz.lays169 Tryz.Builder_Extra_169 B b l w h h0
open Go.RowKit in
theorem Tryz.Builder_String_empty_k (B b : Nat) (w : World) (h : Lib.IsBuilderF 60 5 B b [] w) (hBw : B ≤ w.heap.size) :
    Calls Tryz.prog 24 #[.pointer (some ⟨b, 0, none⟩)] w fun e w' => e = .returned (.string ⟨#[]⟩) ∧ (Lib.IsBuilderF 60 5 B b [] w' ∧ Below B w w' ∧ Lib.OthersKept 5 (some b) w w') := Any.Builder_String_empty_k Tryz.lays169 Tryz.Builder_Extra_169 B b w h hBw
open Go.RowKit in
theorem Tryz.Builder_String_any_k (B b : Nat) (l : List UInt8) (w : World) (h : Lib.IsBuilderF 60 5 B b (Lib.byteCells l) w) (hBw : B ≤ w.heap.size) :
    Calls Tryz.prog 24 #[.pointer (some ⟨b, 0, none⟩)] w fun e w' => e = .returned (.string ⟨l.toArray⟩) ∧ (Lib.IsBuilderF 60 5 B b (Lib.byteCells l) w' ∧ Below B w w' ∧ Lib.OthersKept 5 (some b) w w') := Any.Builder_String_any_k Tryz.lays169 Tryz.Builder_Extra_169 B b l w h hBw
def Tryz.lays129_ren : Go.Shelf.Ren := ⟨fun | 129 => 102 | n => n, fun | 53 => 123 | 3 => 3 | 4 => 4 | 46 => 134 | 5 => 5 | 9 => 9 | n => n, fun | n => n⟩
theorem Tryz.lays129 : Go.Proofs.Lays.n129 Tryz.prog Tryz.lays129_ren := {
  mixed := by kernel_rfl
  f129 := Tryz.func102.trans (congrArg some (by kernel_rfl))
  t3 := Tryz.underlying3
  a3 := Tryz.isAgg3
  z3 := Tryz.sizeOf3
  v3 := Tryz.zeroValue3
  t4 := Tryz.underlying4
  a4 := Tryz.isAgg4
  z4 := Tryz.sizeOf4
  v4 := Tryz.zeroValue4
  t5 := Tryz.underlying5
  a5 := Tryz.isAgg5
  z5 := Tryz.sizeOf5
  v5 := Tryz.zeroValue5
  t9 := Tryz.underlying9
  a9 := Tryz.isAgg9
  z9 := Tryz.sizeOf9
  v9 := Tryz.zeroValue9
  t46 := Tryz.underlying134
  a46 := Tryz.isAgg134
  z46 := Tryz.sizeOf134
  v46 := Tryz.zeroValue134
  t53 := Tryz.underlying123
  a53 := Tryz.isAgg123
  z53 := Tryz.sizeOf123
  v53 := Tryz.zeroValue123 }
theorem Tryz.bits_Len64 (x : Int) (w : World) (h0 : 0 ≤ x) (h1 : x ≤ 18446744073709551615) :
    Calls Tryz.prog 102 #[.int .u64 x] w fun e w' => e = .returned (.int .i64 (Lib.bitLen x.toNat)) ∧ w' = w := Any.bits_Len64 Tryz.lays129 x w h0 h1
def Tryz.lays317_ren : Go.Shelf.Ren := ⟨fun | 317 => 101 | n => n, fun | 3 => 3 | 46 => 134 | n => n, fun | n => n⟩
theorem Tryz.lays317 : Go.Proofs.Lays.n317 Tryz.prog Tryz.lays317_ren := {
  mixed := by kernel_rfl
  f317 := Tryz.func101.trans (congrArg some (by kernel_rfl))
  t3 := Tryz.underlying3
  a3 := Tryz.isAgg3
  z3 := Tryz.sizeOf3
  v3 := Tryz.zeroValue3
  t46 := Tryz.underlying134
  a46 := Tryz.isAgg134
  z46 := Tryz.sizeOf134
  v46 := Tryz.zeroValue134 }
open Go.Lib in
theorem Tryz.internal_strconv_log10Pow2 (x : Nat) (h : x ≤ 64) (w : World) :
    Calls Tryz.prog 101 #[.int .i64 x] w fun e w' => e = .returned (.int .i64 (Lib.l10 x)) ∧ w' = w := Any.internal_strconv_log10Pow2 Tryz.lays317 x h w
def Tryz.lays318_ren : Go.Shelf.Ren := ⟨fun | 318 => 103 | n => n, fun | 3 => 3 | 4 => 4 | n => n, fun | n => n⟩
theorem Tryz.lays318 : Go.Proofs.Lays.n318 Tryz.prog Tryz.lays318_ren := {
  mixed := by kernel_rfl
  f318 := Tryz.func103.trans (congrArg some (by kernel_rfl))
  t3 := Tryz.underlying3
  a3 := Tryz.isAgg3
  z3 := Tryz.sizeOf3
  v3 := Tryz.zeroValue3
  t4 := Tryz.underlying4
  a4 := Tryz.isAgg4
  z4 := Tryz.sizeOf4
  v4 := Tryz.zeroValue4 }
open Go.Lib in
theorem Tryz.internal_strconv_bool2_int (b : Bool) (w : World) :
    Calls Tryz.prog 103 #[.bool b] w fun e w' => e = .returned (.int .i64 (if b then 1 else 0)) ∧ w' = w := Any.internal_strconv_bool2_int Tryz.lays318 b w
def Tryz.lays283_ren : Go.Shelf.Ren := ⟨fun | 283 => 96 | n => n, fun | 3 => 3 | 9 => 9 | 4 => 4 | n => n, fun | n => n⟩
theorem Tryz.lays283 : Go.Proofs.Lays.n283 Tryz.prog Tryz.lays283_ren := {
  mixed := by kernel_rfl
  f283 := Tryz.func96.trans (congrArg some (by kernel_rfl))
  t3 := Tryz.underlying3
  a3 := Tryz.isAgg3
  z3 := Tryz.sizeOf3
  v3 := Tryz.zeroValue3
  t4 := Tryz.underlying4
  a4 := Tryz.isAgg4
  z4 := Tryz.sizeOf4
  v4 := Tryz.zeroValue4
  t9 := Tryz.underlying9
  a9 := Tryz.isAgg9
  z9 := Tryz.sizeOf9
  v9 := Tryz.zeroValue9 }
open Go.Lib in
theorem Tryz.internal_strconv_small (i : Nat) (h : i < 100) (w : World) :
    Calls Tryz.prog 96 #[.int .i64 i] w fun e w' => e = .returned (.string ⟨(Lib.decDigits i).toArray⟩) ∧ w' = w := Any.internal_strconv_small Tryz.lays283 i h w
def Tryz.laysM284_ren : Go.Shelf.Ren := ⟨fun | 284 => 97 | 129 => 102 | 317 => 101 | 318 => 103 | n => n, fun | 53 => 123 | 3 => 3 | 212 => 130 | 0 => 0 | 4 => 4 | 46 => 134 | 5 => 5 | 9 => 9 | n => n, fun | 17 => 2 | n => n⟩
theorem Tryz.laysM284 : Go.Proofs.LaysM.n284 Tryz.prog Tryz.laysM284_ren := {
  mixed := by kernel_rfl
  f129 := Tryz.func102.trans (congrArg some (by kernel_rfl))
  f284 := Tryz.func97.trans (congrArg some (by kernel_rfl))
  f317 := Tryz.func101.trans (congrArg some (by kernel_rfl))
  f318 := Tryz.func103.trans (congrArg some (by kernel_rfl))
  t0 := Tryz.underlying0
  a0 := Tryz.isAgg0
  z0 := Tryz.sizeOf0
  v0 := Tryz.zeroValue0
  t3 := Tryz.underlying3
  a3 := Tryz.isAgg3
  z3 := Tryz.sizeOf3
  v3 := Tryz.zeroValue3
  t4 := Tryz.underlying4
  a4 := Tryz.isAgg4
  z4 := Tryz.sizeOf4
  v4 := Tryz.zeroValue4
  t5 := Tryz.underlying5
  a5 := Tryz.isAgg5
  z5 := Tryz.sizeOf5
  v5 := Tryz.zeroValue5
  t9 := Tryz.underlying9
  a9 := Tryz.isAgg9
  z9 := Tryz.sizeOf9
  v9 := Tryz.zeroValue9
  t46 := Tryz.underlying134
  a46 := Tryz.isAgg134
  z46 := Tryz.sizeOf134
  v46 := Tryz.zeroValue134
  t53 := Tryz.underlying123
  a53 := Tryz.isAgg123
  z53 := Tryz.sizeOf123
  v53 := Tryz.zeroValue123
  t212 := Tryz.underlying130
  a212 := Tryz.isAgg130
  z212 := Tryz.sizeOf130
  v212 := Tryz.zeroValue130
  g17 := by kernel_rfl
  i0 := by kernel_rfl
  i3 := by kernel_rfl
  i4 := by kernel_rfl
  i5 := by kernel_rfl
  i9 := by kernel_rfl
  i46 := by kernel_rfl
  i53 := by kernel_rfl
  i212 := by kernel_rfl
  m17 := by kernel_rfl }
open Go.Lib in
theorem Tryz.internal_strconv_numDigits (u : Nat) (h1 : 1 ≤ u) (h2 : u < 18446744073709551616) (w : World) (htab : Lib.TabIs Tryz.prog w "internal/strconv.uint64pow10" .u64 Lib.pow10Tab) :
    Calls Tryz.prog 97 #[.int .u64 u] w fun e w' => e = .returned (.int .i64 (Lib.nDigits u)) ∧ w' = w := Any.internal_strconv_numDigits Tryz.laysM284 u h1 h2 w htab
def Tryz.lays285_ren : Go.Shelf.Ren := ⟨fun | 285 => 98 | n => n, fun | 37 => 26 | 53 => 123 | 3 => 3 | 4 => 4 | 51 => 131 | 9 => 9 | 5 => 5 | 0 => 0 | n => n, fun | n => n⟩
theorem Tryz.lays285 : Go.Proofs.Lays.n285 Tryz.prog Tryz.lays285_ren := {
  mixed := by kernel_rfl
  f285 := Tryz.func98.trans (congrArg some (by kernel_rfl))
  t0 := Tryz.underlying0
  a0 := Tryz.isAgg0
  z0 := Tryz.sizeOf0
  v0 := Tryz.zeroValue0
  t3 := Tryz.underlying3
  a3 := Tryz.isAgg3
  z3 := Tryz.sizeOf3
  v3 := Tryz.zeroValue3
  t4 := Tryz.underlying4
  a4 := Tryz.isAgg4
  z4 := Tryz.sizeOf4
  v4 := Tryz.zeroValue4
  t5 := Tryz.underlying5
  a5 := Tryz.isAgg5
  z5 := Tryz.sizeOf5
  v5 := Tryz.zeroValue5
  t9 := Tryz.underlying9
  a9 := Tryz.isAgg9
  z9 := Tryz.sizeOf9
  v9 := Tryz.zeroValue9
  t37 := Tryz.underlying26
  a37 := Tryz.isAgg26
  z37 := Tryz.sizeOf26
  v37 := Tryz.zeroValue26
  t51 := Tryz.underlying131
  a51 := Tryz.isAgg131
  z51 := Tryz.sizeOf131
  v51 := Tryz.zeroValue131
  t53 := Tryz.underlying123
  a53 := Tryz.isAgg123
  z53 := Tryz.sizeOf123
  v53 := Tryz.zeroValue123 }
open Go.RowKit Go.Sort Go.Lib in
theorem Tryz.internal_strconv_formatBase10 (blk off cap : Nat) (u : Nat) (d : Array UInt8) (w : World) (hH : Holds (fun (b : UInt8) => Value.int .u8 (b.toNat : Int)) w blk off d) (hu : u < 10 ^ d.size) (hu64 : u < 18446744073709551616) (hsz : d.size < 4611686018427387904) :
    Calls Tryz.prog 98 #[.slice (some ⟨blk, off, none⟩) d.size cap, .int .u64 u] w fun e w' =>
      e = .returned (.tuple #[]) ∧ ∃ (n v' : Nat) (dk : Array UInt8), w' = (putRow (fun (b : UInt8) => Value.int .u8 (b.toNat : Int)) w blk off dk).drewN n ∧ FmtInv d.size u 0 v' dk := Any.internal_strconv_formatBase10 Tryz.lays285 blk off cap u d w hH hu hu64 hsz
def Tryz.laysM246_ren : Go.Shelf.Ren := ⟨fun | 246 => 87 | 283 => 96 | 284 => 97 | 285 => 98 | 286 => 99 | 129 => 102 | 317 => 101 | 318 => 103 | 319 => 104 | 320 => 105 | 337 => 107 | 338 => 108 | n => n, fun | 2 => 2 | 3 => 3 | 9 => 9 | 4 => 4 | 171 => 122 | 0 => 0 | 53 => 123 | 37 => 26 | 5 => 5 | 173 => 126 | 212 => 130 | 51 => 131 | 20 => 20 | 213 => 132 | 46 => 134 | 232 => 138 | 233 => 139 | n => n, fun | 17 => 2 | 18 => 3 | 19 => 4 | n => n⟩
theorem Tryz.laysM246 : Go.Proofs.LaysM.n246 Tryz.prog Tryz.laysM246_ren := {
  mixed := by kernel_rfl
  f129 := Tryz.func102.trans (congrArg some (by kernel_rfl))
  f246 := Tryz.func87.trans (congrArg some (by kernel_rfl))
  f283 := Tryz.func96.trans (congrArg some (by kernel_rfl))
  f284 := Tryz.func97.trans (congrArg some (by kernel_rfl))
  f285 := Tryz.func98.trans (congrArg some (by kernel_rfl))
  f286 := Tryz.func99.trans (congrArg some (by kernel_rfl))
  f317 := Tryz.func101.trans (congrArg some (by kernel_rfl))
  f318 := Tryz.func103.trans (congrArg some (by kernel_rfl))
  f319 := Tryz.func104.trans (congrArg some (by kernel_rfl))
  f320 := Tryz.func105.trans (congrArg some (by kernel_rfl))
  f337 := Tryz.func107.trans (congrArg some (by kernel_rfl))
  f338 := Tryz.func108.trans (congrArg some (by kernel_rfl))
  t0 := Tryz.underlying0
  a0 := Tryz.isAgg0
  z0 := Tryz.sizeOf0
  v0 := Tryz.zeroValue0
  t2 := Tryz.underlying2
  a2 := Tryz.isAgg2
  z2 := Tryz.sizeOf2
  v2 := Tryz.zeroValue2
  t3 := Tryz.underlying3
  a3 := Tryz.isAgg3
  z3 := Tryz.sizeOf3
  v3 := Tryz.zeroValue3
  t4 := Tryz.underlying4
  a4 := Tryz.isAgg4
  z4 := Tryz.sizeOf4
  v4 := Tryz.zeroValue4
  t5 := Tryz.underlying5
  a5 := Tryz.isAgg5
  z5 := Tryz.sizeOf5
  v5 := Tryz.zeroValue5
  t9 := Tryz.underlying9
  a9 := Tryz.isAgg9
  z9 := Tryz.sizeOf9
  v9 := Tryz.zeroValue9
  t20 := Tryz.underlying20
  a20 := Tryz.isAgg20
  z20 := Tryz.sizeOf20
  v20 := Tryz.zeroValue20
  t37 := Tryz.underlying26
  a37 := Tryz.isAgg26
  z37 := Tryz.sizeOf26
  v37 := Tryz.zeroValue26
  t46 := Tryz.underlying134
  a46 := Tryz.isAgg134
  z46 := Tryz.sizeOf134
  v46 := Tryz.zeroValue134
  t51 := Tryz.underlying131
  a51 := Tryz.isAgg131
  z51 := Tryz.sizeOf131
  v51 := Tryz.zeroValue131
  t53 := Tryz.underlying123
  a53 := Tryz.isAgg123
  z53 := Tryz.sizeOf123
  v53 := Tryz.zeroValue123
  t171 := Tryz.underlying122
  a171 := Tryz.isAgg122
  z171 := Tryz.sizeOf122
  v171 := Tryz.zeroValue122
  t173 := Tryz.underlying126
  a173 := Tryz.isAgg126
  z173 := Tryz.sizeOf126
  v173 := Tryz.zeroValue126
  t212 := Tryz.underlying130
  a212 := Tryz.isAgg130
  z212 := Tryz.sizeOf130
  v212 := Tryz.zeroValue130
  t213 := Tryz.underlying132
  a213 := Tryz.isAgg132
  z213 := Tryz.sizeOf132
  t232 := Tryz.underlying138
  a232 := Tryz.isAgg138
  z232 := Tryz.sizeOf138
  v232 := Tryz.zeroValue138
  t233 := Tryz.underlying139
  a233 := Tryz.isAgg139
  z233 := Tryz.sizeOf139
  v233 := Tryz.zeroValue139
  g17 := by kernel_rfl
  g18 := by kernel_rfl
  g19 := by kernel_rfl
  i0 := by kernel_rfl
  i2 := by kernel_rfl
  i3 := by kernel_rfl
  i4 := by kernel_rfl
  i5 := by kernel_rfl
  i9 := by kernel_rfl
  i20 := by kernel_rfl
  i37 := by kernel_rfl
  i46 := by kernel_rfl
  i51 := by kernel_rfl
  i53 := by kernel_rfl
  i171 := by kernel_rfl
  i173 := by kernel_rfl
  i212 := by kernel_rfl
  i232 := by kernel_rfl
  i233 := by kernel_rfl
  m17 := by kernel_rfl
  m18 := by kernel_rfl
  m19 := by kernel_rfl }
open Go.RowKit Go.Sort Go.Lib in
theorem Tryz.internal_strconv_FormatInt_10 (n : Int) (h0 : -9223372036854775808 ≤ n) (h1 : n ≤ 9223372036854775807) (w : World) (htab : Lib.TabIs Tryz.prog w "internal/strconv.uint64pow10" .u64 Lib.pow10Tab) :
    Calls Tryz.prog 87 #[.int .i64 n, .int .i64 10] w fun e w' => e = .returned (.string ⟨(Lib.itoa n).toArray⟩) ∧ ∃ k os, w' = grow (w.drewN k) os := Any.internal_strconv_FormatInt_10 Tryz.laysM246 n h0 h1 w htab
def Tryz.lays246_ren : Go.Shelf.Ren := ⟨fun | 246 => 87 | 283 => 96 | 284 => 97 | 285 => 98 | 286 => 99 | 129 => 102 | 317 => 101 | 318 => 103 | 319 => 104 | 320 => 105 | 337 => 107 | 338 => 108 | n => n, fun | 2 => 2 | 3 => 3 | 9 => 9 | 4 => 4 | 171 => 122 | 0 => 0 | 53 => 123 | 37 => 26 | 5 => 5 | 173 => 126 | 212 => 130 | 51 => 131 | 20 => 20 | 213 => 132 | 46 => 134 | 232 => 138 | 233 => 139 | n => n, fun | 17 => 2 | 18 => 3 | 19 => 4 | n => n⟩
theorem Tryz.lays246 : Go.Proofs.Lays.n246 Tryz.prog Tryz.lays246_ren := {
  mixed := by kernel_rfl
  f129 := Tryz.func102.trans (congrArg some (by kernel_rfl))
  f246 := Tryz.func87.trans (congrArg some (by kernel_rfl))
  f283 := Tryz.func96.trans (congrArg some (by kernel_rfl))
  f284 := Tryz.func97.trans (congrArg some (by kernel_rfl))
  f285 := Tryz.func98.trans (congrArg some (by kernel_rfl))
  f286 := Tryz.func99.trans (congrArg some (by kernel_rfl))
  f317 := Tryz.func101.trans (congrArg some (by kernel_rfl))
  f318 := Tryz.func103.trans (congrArg some (by kernel_rfl))
  f319 := Tryz.func104.trans (congrArg some (by kernel_rfl))
  f320 := Tryz.func105.trans (congrArg some (by kernel_rfl))
  f337 := Tryz.func107.trans (congrArg some (by kernel_rfl))
  f338 := Tryz.func108.trans (congrArg some (by kernel_rfl))
  t0 := Tryz.underlying0
  a0 := Tryz.isAgg0
  z0 := Tryz.sizeOf0
  v0 := Tryz.zeroValue0
  t2 := Tryz.underlying2
  a2 := Tryz.isAgg2
  z2 := Tryz.sizeOf2
  v2 := Tryz.zeroValue2
  t3 := Tryz.underlying3
  a3 := Tryz.isAgg3
  z3 := Tryz.sizeOf3
  v3 := Tryz.zeroValue3
  t4 := Tryz.underlying4
  a4 := Tryz.isAgg4
  z4 := Tryz.sizeOf4
  v4 := Tryz.zeroValue4
  t5 := Tryz.underlying5
  a5 := Tryz.isAgg5
  z5 := Tryz.sizeOf5
  v5 := Tryz.zeroValue5
  t9 := Tryz.underlying9
  a9 := Tryz.isAgg9
  z9 := Tryz.sizeOf9
  v9 := Tryz.zeroValue9
  t20 := Tryz.underlying20
  a20 := Tryz.isAgg20
  z20 := Tryz.sizeOf20
  v20 := Tryz.zeroValue20
  t37 := Tryz.underlying26
  a37 := Tryz.isAgg26
  z37 := Tryz.sizeOf26
  v37 := Tryz.zeroValue26
  t46 := Tryz.underlying134
  a46 := Tryz.isAgg134
  z46 := Tryz.sizeOf134
  v46 := Tryz.zeroValue134
  t51 := Tryz.underlying131
  a51 := Tryz.isAgg131
  z51 := Tryz.sizeOf131
  v51 := Tryz.zeroValue131
  t53 := Tryz.underlying123
  a53 := Tryz.isAgg123
  z53 := Tryz.sizeOf123
  v53 := Tryz.zeroValue123
  t171 := Tryz.underlying122
  a171 := Tryz.isAgg122
  z171 := Tryz.sizeOf122
  v171 := Tryz.zeroValue122
  t173 := Tryz.underlying126
  a173 := Tryz.isAgg126
  z173 := Tryz.sizeOf126
  v173 := Tryz.zeroValue126
  t212 := Tryz.underlying130
  a212 := Tryz.isAgg130
  z212 := Tryz.sizeOf130
  v212 := Tryz.zeroValue130
  t213 := Tryz.underlying132
  a213 := Tryz.isAgg132
  z213 := Tryz.sizeOf132
  t232 := Tryz.underlying138
  a232 := Tryz.isAgg138
  z232 := Tryz.sizeOf138
  v232 := Tryz.zeroValue138
  t233 := Tryz.underlying139
  a233 := Tryz.isAgg139
  z233 := Tryz.sizeOf139
  v233 := Tryz.zeroValue139
  g17 := by kernel_rfl
  g18 := by kernel_rfl
  g19 := by kernel_rfl }
open Go.RowKit Go.Sort Go.Lib in
theorem Tryz.internal_strconv_FormatInt_10_small (i : Nat) (hi : i < 100) (w : World) :
    Calls Tryz.prog 87 #[.int .i64 i, .int .i64 10] w fun e w' => e = .returned (.string ⟨(Lib.decDigits i).toArray⟩) ∧ w' = w := Any.internal_strconv_FormatInt_10_small Tryz.lays246 i hi w
def Tryz.laysM243_ren : Go.Shelf.Ren := ⟨fun | 243 => 77 | 246 => 87 | 283 => 96 | 284 => 97 | 285 => 98 | 286 => 99 | 129 => 102 | 317 => 101 | 318 => 103 | 319 => 104 | 320 => 105 | 337 => 107 | 338 => 108 | n => n, fun | 3 => 3 | 9 => 9 | 2 => 2 | 4 => 4 | 171 => 122 | 0 => 0 | 53 => 123 | 37 => 26 | 5 => 5 | 173 => 126 | 212 => 130 | 51 => 131 | 20 => 20 | 213 => 132 | 46 => 134 | 232 => 138 | 233 => 139 | n => n, fun | 17 => 2 | 18 => 3 | 19 => 4 | n => n⟩
theorem Tryz.laysM243 : Go.Proofs.LaysM.n243 Tryz.prog Tryz.laysM243_ren := {
  mixed := by kernel_rfl
  f129 := Tryz.func102.trans (congrArg some (by kernel_rfl))
  f243 := Tryz.func77.trans (congrArg some (by kernel_rfl))
  f246 := Tryz.func87.trans (congrArg some (by kernel_rfl))
  f283 := Tryz.func96.trans (congrArg some (by kernel_rfl))
  f284 := Tryz.func97.trans (congrArg some (by kernel_rfl))
  f285 := Tryz.func98.trans (congrArg some (by kernel_rfl))
  f286 := Tryz.func99.trans (congrArg some (by kernel_rfl))
  f317 := Tryz.func101.trans (congrArg some (by kernel_rfl))
  f318 := Tryz.func103.trans (congrArg some (by kernel_rfl))
  f319 := Tryz.func104.trans (congrArg some (by kernel_rfl))
  f320 := Tryz.func105.trans (congrArg some (by kernel_rfl))
  f337 := Tryz.func107.trans (congrArg some (by kernel_rfl))
  f338 := Tryz.func108.trans (congrArg some (by kernel_rfl))
  t0 := Tryz.underlying0
  a0 := Tryz.isAgg0
  z0 := Tryz.sizeOf0
  v0 := Tryz.zeroValue0
  t2 := Tryz.underlying2
  a2 := Tryz.isAgg2
  z2 := Tryz.sizeOf2
  v2 := Tryz.zeroValue2
  t3 := Tryz.underlying3
  a3 := Tryz.isAgg3
  z3 := Tryz.sizeOf3
  v3 := Tryz.zeroValue3
  t4 := Tryz.underlying4
  a4 := Tryz.isAgg4
  z4 := Tryz.sizeOf4
  v4 := Tryz.zeroValue4
  t5 := Tryz.underlying5
  a5 := Tryz.isAgg5
  z5 := Tryz.sizeOf5
  v5 := Tryz.zeroValue5
  t9 := Tryz.underlying9
  a9 := Tryz.isAgg9
  z9 := Tryz.sizeOf9
  v9 := Tryz.zeroValue9
  t20 := Tryz.underlying20
  a20 := Tryz.isAgg20
  z20 := Tryz.sizeOf20
  v20 := Tryz.zeroValue20
  t37 := Tryz.underlying26
  a37 := Tryz.isAgg26
  z37 := Tryz.sizeOf26
  v37 := Tryz.zeroValue26
  t46 := Tryz.underlying134
  a46 := Tryz.isAgg134
  z46 := Tryz.sizeOf134
  v46 := Tryz.zeroValue134
  t51 := Tryz.underlying131
  a51 := Tryz.isAgg131
  z51 := Tryz.sizeOf131
  v51 := Tryz.zeroValue131
  t53 := Tryz.underlying123
  a53 := Tryz.isAgg123
  z53 := Tryz.sizeOf123
  v53 := Tryz.zeroValue123
  t171 := Tryz.underlying122
  a171 := Tryz.isAgg122
  z171 := Tryz.sizeOf122
  v171 := Tryz.zeroValue122
  t173 := Tryz.underlying126
  a173 := Tryz.isAgg126
  z173 := Tryz.sizeOf126
  v173 := Tryz.zeroValue126
  t212 := Tryz.underlying130
  a212 := Tryz.isAgg130
  z212 := Tryz.sizeOf130
  v212 := Tryz.zeroValue130
  t213 := Tryz.underlying132
  a213 := Tryz.isAgg132
  z213 := Tryz.sizeOf132
  t232 := Tryz.underlying138
  a232 := Tryz.isAgg138
  z232 := Tryz.sizeOf138
  v232 := Tryz.zeroValue138
  t233 := Tryz.underlying139
  a233 := Tryz.isAgg139
  z233 := Tryz.sizeOf139
  v233 := Tryz.zeroValue139
  g17 := by kernel_rfl
  g18 := by kernel_rfl
  g19 := by kernel_rfl
  i0 := by kernel_rfl
  i2 := by kernel_rfl
  i3 := by kernel_rfl
  i4 := by kernel_rfl
  i5 := by kernel_rfl
  i9 := by kernel_rfl
  i20 := by kernel_rfl
  i37 := by kernel_rfl
  i46 := by kernel_rfl
  i51 := by kernel_rfl
  i53 := by kernel_rfl
  i171 := by kernel_rfl
  i173 := by kernel_rfl
  i212 := by kernel_rfl
  i232 := by kernel_rfl
  i233 := by kernel_rfl
  m17 := by kernel_rfl
  m18 := by kernel_rfl
  m19 := by kernel_rfl }
open Go.RowKit Go.Sort Go.Lib in
theorem Tryz.internal_strconv_Itoa (n : Int) (h0 : -9223372036854775808 ≤ n) (h1 : n ≤ 9223372036854775807) (w : World) (htab : Lib.TabIs Tryz.prog w "internal/strconv.uint64pow10" .u64 Lib.pow10Tab) :
    Calls Tryz.prog 77 #[.int .i64 n] w fun e w' => e = .returned (.string ⟨(Lib.itoa n).toArray⟩) ∧ ∃ k os, w' = grow (w.drewN k) os := Any.internal_strconv_Itoa Tryz.laysM243 n h0 h1 w htab
def Tryz.lays243_ren : Go.Shelf.Ren := ⟨fun | 243 => 77 | 246 => 87 | 283 => 96 | 284 => 97 | 285 => 98 | 286 => 99 | 129 => 102 | 317 => 101 | 318 => 103 | 319 => 104 | 320 => 105 | 337 => 107 | 338 => 108 | n => n, fun | 3 => 3 | 9 => 9 | 2 => 2 | 4 => 4 | 171 => 122 | 0 => 0 | 53 => 123 | 37 => 26 | 5 => 5 | 173 => 126 | 212 => 130 | 51 => 131 | 20 => 20 | 213 => 132 | 46 => 134 | 232 => 138 | 233 => 139 | n => n, fun | 17 => 2 | 18 => 3 | 19 => 4 | n => n⟩
theorem Tryz.lays243 : Go.Proofs.Lays.n243 Tryz.prog Tryz.lays243_ren := {
  mixed := by kernel_rfl
  f129 := Tryz.func102.trans (congrArg some (by kernel_rfl))
  f243 := Tryz.func77.trans (congrArg some (by kernel_rfl))
  f246 := Tryz.func87.trans (congrArg some (by kernel_rfl))
  f283 := Tryz.func96.trans (congrArg some (by kernel_rfl))
  f284 := Tryz.func97.trans (congrArg some (by kernel_rfl))
  f285 := Tryz.func98.trans (congrArg some (by kernel_rfl))
  f286 := Tryz.func99.trans (congrArg some (by kernel_rfl))
  f317 := Tryz.func101.trans (congrArg some (by kernel_rfl))
  f318 := Tryz.func103.trans (congrArg some (by kernel_rfl))
  f319 := Tryz.func104.trans (congrArg some (by kernel_rfl))
  f320 := Tryz.func105.trans (congrArg some (by kernel_rfl))
  f337 := Tryz.func107.trans (congrArg some (by kernel_rfl))
  f338 := Tryz.func108.trans (congrArg some (by kernel_rfl))
  t0 := Tryz.underlying0
  a0 := Tryz.isAgg0
  z0 := Tryz.sizeOf0
  v0 := Tryz.zeroValue0
  t2 := Tryz.underlying2
  a2 := Tryz.isAgg2
  z2 := Tryz.sizeOf2
  v2 := Tryz.zeroValue2
  t3 := Tryz.underlying3
  a3 := Tryz.isAgg3
  z3 := Tryz.sizeOf3
  v3 := Tryz.zeroValue3
  t4 := Tryz.underlying4
  a4 := Tryz.isAgg4
  z4 := Tryz.sizeOf4
  v4 := Tryz.zeroValue4
  t5 := Tryz.underlying5
  a5 := Tryz.isAgg5
  z5 := Tryz.sizeOf5
  v5 := Tryz.zeroValue5
  t9 := Tryz.underlying9
  a9 := Tryz.isAgg9
  z9 := Tryz.sizeOf9
  v9 := Tryz.zeroValue9
  t20 := Tryz.underlying20
  a20 := Tryz.isAgg20
  z20 := Tryz.sizeOf20
  v20 := Tryz.zeroValue20
  t37 := Tryz.underlying26
  a37 := Tryz.isAgg26
  z37 := Tryz.sizeOf26
  v37 := Tryz.zeroValue26
  t46 := Tryz.underlying134
  a46 := Tryz.isAgg134
  z46 := Tryz.sizeOf134
  v46 := Tryz.zeroValue134
  t51 := Tryz.underlying131
  a51 := Tryz.isAgg131
  z51 := Tryz.sizeOf131
  v51 := Tryz.zeroValue131
  t53 := Tryz.underlying123
  a53 := Tryz.isAgg123
  z53 := Tryz.sizeOf123
  v53 := Tryz.zeroValue123
  t171 := Tryz.underlying122
  a171 := Tryz.isAgg122
  z171 := Tryz.sizeOf122
  v171 := Tryz.zeroValue122
  t173 := Tryz.underlying126
  a173 := Tryz.isAgg126
  z173 := Tryz.sizeOf126
  v173 := Tryz.zeroValue126
  t212 := Tryz.underlying130
  a212 := Tryz.isAgg130
  z212 := Tryz.sizeOf130
  v212 := Tryz.zeroValue130
  t213 := Tryz.underlying132
  a213 := Tryz.isAgg132
  z213 := Tryz.sizeOf132
  t232 := Tryz.underlying138
  a232 := Tryz.isAgg138
  z232 := Tryz.sizeOf138
  v232 := Tryz.zeroValue138
  t233 := Tryz.underlying139
  a233 := Tryz.isAgg139
  z233 := Tryz.sizeOf139
  v233 := Tryz.zeroValue139
  g17 := by kernel_rfl
  g18 := by kernel_rfl
  g19 := by kernel_rfl }
open Go.RowKit Go.Sort Go.Lib in
theorem Tryz.internal_strconv_Itoa_small (i : Nat) (hi : i < 100) (w : World) :
    Calls Tryz.prog 77 #[.int .i64 i] w fun e w' => e = .returned (.string ⟨(Lib.decDigits i).toArray⟩) ∧ w' = w := Any.internal_strconv_Itoa_small Tryz.lays243 i hi w
def Tryz.laysM171_ren : Go.Shelf.Ren := ⟨fun | 171 => 68 | 243 => 77 | 246 => 87 | 283 => 96 | 284 => 97 | 285 => 98 | 286 => 99 | 129 => 102 | 317 => 101 | 318 => 103 | 319 => 104 | 320 => 105 | 337 => 107 | 338 => 108 | n => n, fun | 3 => 3 | 9 => 9 | 2 => 2 | 4 => 4 | 171 => 122 | 0 => 0 | 53 => 123 | 37 => 26 | 5 => 5 | 173 => 126 | 212 => 130 | 51 => 131 | 20 => 20 | 213 => 132 | 46 => 134 | 232 => 138 | 233 => 139 | n => n, fun | 17 => 2 | 18 => 3 | 19 => 4 | n => n⟩
theorem Tryz.laysM171 : Go.Proofs.LaysM.n171 Tryz.prog Tryz.laysM171_ren := {
  mixed := by kernel_rfl
  f129 := Tryz.func102.trans (congrArg some (by kernel_rfl))
  f171 := Tryz.func68.trans (congrArg some (by kernel_rfl))
  f243 := Tryz.func77.trans (congrArg some (by kernel_rfl))
  f246 := Tryz.func87.trans (congrArg some (by kernel_rfl))
  f283 := Tryz.func96.trans (congrArg some (by kernel_rfl))
  f284 := Tryz.func97.trans (congrArg some (by kernel_rfl))
  f285 := Tryz.func98.trans (congrArg some (by kernel_rfl))
  f286 := Tryz.func99.trans (congrArg some (by kernel_rfl))
  f317 := Tryz.func101.trans (congrArg some (by kernel_rfl))
  f318 := Tryz.func103.trans (congrArg some (by kernel_rfl))
  f319 := Tryz.func104.trans (congrArg some (by kernel_rfl))
  f320 := Tryz.func105.trans (congrArg some (by kernel_rfl))
  f337 := Tryz.func107.trans (congrArg some (by kernel_rfl))
  f338 := Tryz.func108.trans (congrArg some (by kernel_rfl))
  t0 := Tryz.underlying0
  a0 := Tryz.isAgg0
  z0 := Tryz.sizeOf0
  v0 := Tryz.zeroValue0
  t2 := Tryz.underlying2
  a2 := Tryz.isAgg2
  z2 := Tryz.sizeOf2
  v2 := Tryz.zeroValue2
  t3 := Tryz.underlying3
  a3 := Tryz.isAgg3
  z3 := Tryz.sizeOf3
  v3 := Tryz.zeroValue3
  t4 := Tryz.underlying4
  a4 := Tryz.isAgg4
  z4 := Tryz.sizeOf4
  v4 := Tryz.zeroValue4
  t5 := Tryz.underlying5
  a5 := Tryz.isAgg5
  z5 := Tryz.sizeOf5
  v5 := Tryz.zeroValue5
  t9 := Tryz.underlying9
  a9 := Tryz.isAgg9
  z9 := Tryz.sizeOf9
  v9 := Tryz.zeroValue9
  t20 := Tryz.underlying20
  a20 := Tryz.isAgg20
  z20 := Tryz.sizeOf20
  v20 := Tryz.zeroValue20
  t37 := Tryz.underlying26
  a37 := Tryz.isAgg26
  z37 := Tryz.sizeOf26
  v37 := Tryz.zeroValue26
  t46 := Tryz.underlying134
  a46 := Tryz.isAgg134
  z46 := Tryz.sizeOf134
  v46 := Tryz.zeroValue134
  t51 := Tryz.underlying131
  a51 := Tryz.isAgg131
  z51 := Tryz.sizeOf131
  v51 := Tryz.zeroValue131
  t53 := Tryz.underlying123
  a53 := Tryz.isAgg123
  z53 := Tryz.sizeOf123
  v53 := Tryz.zeroValue123
  t171 := Tryz.underlying122
  a171 := Tryz.isAgg122
  z171 := Tryz.sizeOf122
  v171 := Tryz.zeroValue122
  t173 := Tryz.underlying126
  a173 := Tryz.isAgg126
  z173 := Tryz.sizeOf126
  v173 := Tryz.zeroValue126
  t212 := Tryz.underlying130
  a212 := Tryz.isAgg130
  z212 := Tryz.sizeOf130
  v212 := Tryz.zeroValue130
  t213 := Tryz.underlying132
  a213 := Tryz.isAgg132
  z213 := Tryz.sizeOf132
  t232 := Tryz.underlying138
  a232 := Tryz.isAgg138
  z232 := Tryz.sizeOf138
  v232 := Tryz.zeroValue138
  t233 := Tryz.underlying139
  a233 := Tryz.isAgg139
  z233 := Tryz.sizeOf139
  v233 := Tryz.zeroValue139
  g17 := by kernel_rfl
  g18 := by kernel_rfl
  g19 := by kernel_rfl
  i0 := by kernel_rfl
  i2 := by kernel_rfl
  i3 := by kernel_rfl
  i4 := by kernel_rfl
  i5 := by kernel_rfl
  i9 := by kernel_rfl
  i20 := by kernel_rfl
  i37 := by kernel_rfl
  i46 := by kernel_rfl
  i51 := by kernel_rfl
  i53 := by kernel_rfl
  i171 := by kernel_rfl
  i173 := by kernel_rfl
  i212 := by kernel_rfl
  i232 := by kernel_rfl
  i233 := by kernel_rfl
  m17 := by kernel_rfl
  m18 := by kernel_rfl
  m19 := by kernel_rfl }
open Go.RowKit Go.Sort Go.Lib in
theorem Tryz.strconv_Itoa (n : Int) (h0 : -9223372036854775808 ≤ n) (h1 : n ≤ 9223372036854775807) (w : World) (htab : Lib.TabIs Tryz.prog w "internal/strconv.uint64pow10" .u64 Lib.pow10Tab) :
    Calls Tryz.prog 68 #[.int .i64 n] w fun e w' => e = .returned (.string ⟨(Lib.itoa n).toArray⟩) ∧ ∃ k os, w' = grow (w.drewN k) os := Any.strconv_Itoa Tryz.laysM171 n h0 h1 w htab
def Tryz.lays171_ren : Go.Shelf.Ren := ⟨fun | 171 => 68 | 243 => 77 | 246 => 87 | 283 => 96 | 284 => 97 | 285 => 98 | 286 => 99 | 129 => 102 | 317 => 101 | 318 => 103 | 319 => 104 | 320 => 105 | 337 => 107 | 338 => 108 | n => n, fun | 3 => 3 | 9 => 9 | 2 => 2 | 4 => 4 | 171 => 122 | 0 => 0 | 53 => 123 | 37 => 26 | 5 => 5 | 173 => 126 | 212 => 130 | 51 => 131 | 20 => 20 | 213 => 132 | 46 => 134 | 232 => 138 | 233 => 139 | n => n, fun | 17 => 2 | 18 => 3 | 19 => 4 | n => n⟩
theorem Tryz.lays171 : Go.Proofs.Lays.n171 Tryz.prog Tryz.lays171_ren := {
  mixed := by kernel_rfl
  f129 := Tryz.func102.trans (congrArg some (by kernel_rfl))
  f171 := Tryz.func68.trans (congrArg some (by kernel_rfl))
  f243 := Tryz.func77.trans (congrArg some (by kernel_rfl))
  f246 := Tryz.func87.trans (congrArg some (by kernel_rfl))
  f283 := Tryz.func96.trans (congrArg some (by kernel_rfl))
  f284 := Tryz.func97.trans (congrArg some (by kernel_rfl))
  f285 := Tryz.func98.trans (congrArg some (by kernel_rfl))
  f286 := Tryz.func99.trans (congrArg some (by kernel_rfl))
  f317 := Tryz.func101.trans (congrArg some (by kernel_rfl))
  f318 := Tryz.func103.trans (congrArg some (by kernel_rfl))
  f319 := Tryz.func104.trans (congrArg some (by kernel_rfl))
  f320 := Tryz.func105.trans (congrArg some (by kernel_rfl))
  f337 := Tryz.func107.trans (congrArg some (by kernel_rfl))
  f338 := Tryz.func108.trans (congrArg some (by kernel_rfl))
  t0 := Tryz.underlying0
  a0 := Tryz.isAgg0
  z0 := Tryz.sizeOf0
  v0 := Tryz.zeroValue0
  t2 := Tryz.underlying2
  a2 := Tryz.isAgg2
  z2 := Tryz.sizeOf2
  v2 := Tryz.zeroValue2
  t3 := Tryz.underlying3
  a3 := Tryz.isAgg3
  z3 := Tryz.sizeOf3
  v3 := Tryz.zeroValue3
  t4 := Tryz.underlying4
  a4 := Tryz.isAgg4
  z4 := Tryz.sizeOf4
  v4 := Tryz.zeroValue4
  t5 := Tryz.underlying5
  a5 := Tryz.isAgg5
  z5 := Tryz.sizeOf5
  v5 := Tryz.zeroValue5
  t9 := Tryz.underlying9
  a9 := Tryz.isAgg9
  z9 := Tryz.sizeOf9
  v9 := Tryz.zeroValue9
  t20 := Tryz.underlying20
  a20 := Tryz.isAgg20
  z20 := Tryz.sizeOf20
  v20 := Tryz.zeroValue20
  t37 := Tryz.underlying26
  a37 := Tryz.isAgg26
  z37 := Tryz.sizeOf26
  v37 := Tryz.zeroValue26
  t46 := Tryz.underlying134
  a46 := Tryz.isAgg134
  z46 := Tryz.sizeOf134
  v46 := Tryz.zeroValue134
  t51 := Tryz.underlying131
  a51 := Tryz.isAgg131
  z51 := Tryz.sizeOf131
  v51 := Tryz.zeroValue131
  t53 := Tryz.underlying123
  a53 := Tryz.isAgg123
  z53 := Tryz.sizeOf123
  v53 := Tryz.zeroValue123
  t171 := Tryz.underlying122
  a171 := Tryz.isAgg122
  z171 := Tryz.sizeOf122
  v171 := Tryz.zeroValue122
  t173 := Tryz.underlying126
  a173 := Tryz.isAgg126
  z173 := Tryz.sizeOf126
  v173 := Tryz.zeroValue126
  t212 := Tryz.underlying130
  a212 := Tryz.isAgg130
  z212 := Tryz.sizeOf130
  v212 := Tryz.zeroValue130
  t213 := Tryz.underlying132
  a213 := Tryz.isAgg132
  z213 := Tryz.sizeOf132
  t232 := Tryz.underlying138
  a232 := Tryz.isAgg138
  z232 := Tryz.sizeOf138
  v232 := Tryz.zeroValue138
  t233 := Tryz.underlying139
  a233 := Tryz.isAgg139
  z233 := Tryz.sizeOf139
  v233 := Tryz.zeroValue139
  g17 := by kernel_rfl
  g18 := by kernel_rfl
  g19 := by kernel_rfl }
open Go.RowKit Go.Sort Go.Lib in
theorem Tryz.strconv_Itoa_small (i : Nat) (hi : i < 100) (w : World) :
    Calls Tryz.prog 68 #[.int .i64 i] w fun e w' => e = .returned (.string ⟨(Lib.decDigits i).toArray⟩) ∧ w' = w := Any.strconv_Itoa_small Tryz.lays171 i hi w
def Tryz.lays217_ren : Go.Shelf.Ren := ⟨fun | 217 => 86 | 266 => 95 | n => n, fun | 9 => 9 | 5 => 5 | 3 => 3 | n => n, fun | n => n⟩
theorem Tryz.lays217 : Go.Proofs.Lays.n217 Tryz.prog Tryz.lays217_ren := {
  mixed := by kernel_rfl
  f217 := Tryz.func86.trans (congrArg some (by kernel_rfl))
  f266 := Tryz.func95.trans (congrArg some (by kernel_rfl))
  t3 := Tryz.underlying3
  a3 := Tryz.isAgg3
  z3 := Tryz.sizeOf3
  v3 := Tryz.zeroValue3
  t5 := Tryz.underlying5
  a5 := Tryz.isAgg5
  z5 := Tryz.sizeOf5
  v5 := Tryz.zeroValue5
  t9 := Tryz.underlying9
  a9 := Tryz.isAgg9
  z9 := Tryz.sizeOf9
  v9 := Tryz.zeroValue9 }
open Go.RowKit Go.Lib in
theorem Tryz.stringslite_IndexByte (s : ByteArray) (c : Int) (w : World) :
    Calls Tryz.prog 86 #[.string s, .int .u8 c] w fun e w' => e = .returned (.int .i64 (Lib.indexByte s.data.toList c.toNat.toUInt8)) ∧ w' = w := Any.stringslite_IndexByte Tryz.lays217 s c w
def Tryz.lays206_ren : Go.Shelf.Ren := ⟨fun | 206 => 109 | n => n, fun | 9 => 9 | 4 => 4 | 3 => 3 | n => n, fun | n => n⟩
theorem Tryz.lays206 : Go.Proofs.Lays.n206 Tryz.prog Tryz.lays206_ren := {
  mixed := by kernel_rfl
  f206 := Tryz.func109.trans (congrArg some (by kernel_rfl))
  t3 := Tryz.underlying3
  a3 := Tryz.isAgg3
  z3 := Tryz.sizeOf3
  v3 := Tryz.zeroValue3
  t4 := Tryz.underlying4
  a4 := Tryz.isAgg4
  z4 := Tryz.sizeOf4
  v4 := Tryz.zeroValue4
  t9 := Tryz.underlying9
  a9 := Tryz.isAgg9
  z9 := Tryz.sizeOf9
  v9 := Tryz.zeroValue9 }
open Go.RowKit Go.Lib in
theorem Tryz.stringslite_HasPrefix (s p : ByteArray) (w : World) :
    Calls Tryz.prog 109 #[.string s, .string p] w fun e w' => e = .returned (.bool (Lib.hasPrefix s.data.toList p.data.toList)) ∧ w' = w := Any.stringslite_HasPrefix Tryz.lays206 s p w
def Tryz.lays208_ren : Go.Shelf.Ren := ⟨fun | 208 => 106 | 206 => 109 | n => n, fun | 9 => 9 | 4 => 4 | 3 => 3 | n => n, fun | n => n⟩
theorem Tryz.lays208 : Go.Proofs.Lays.n208 Tryz.prog Tryz.lays208_ren := {
  mixed := by kernel_rfl
  f206 := Tryz.func109.trans (congrArg some (by kernel_rfl))
  f208 := Tryz.func106.trans (congrArg some (by kernel_rfl))
  t3 := Tryz.underlying3
  a3 := Tryz.isAgg3
  z3 := Tryz.sizeOf3
  v3 := Tryz.zeroValue3
  t4 := Tryz.underlying4
  a4 := Tryz.isAgg4
  z4 := Tryz.sizeOf4
  v4 := Tryz.zeroValue4
  t9 := Tryz.underlying9
  a9 := Tryz.isAgg9
  z9 := Tryz.sizeOf9
  v9 := Tryz.zeroValue9 }
open Go.RowKit Go.Lib in
theorem Tryz.stringslite_TrimPrefix (s p : ByteArray) (w : World) :
    Calls Tryz.prog 106 #[.string s, .string p] w fun e w' => e = .returned (.string ⟨(Lib.trimPrefix s.data.toList p.data.toList).toArray⟩) ∧ w' = w := Any.stringslite_TrimPrefix Tryz.lays208 s p w
def Tryz.lays101_ren : Go.Shelf.Ren := ⟨fun | 101 => 100 | 208 => 106 | 206 => 109 | n => n, fun | 9 => 9 | 4 => 4 | 3 => 3 | n => n, fun | n => n⟩
theorem Tryz.lays101 : Go.Proofs.Lays.n101 Tryz.prog Tryz.lays101_ren := {
  mixed := by kernel_rfl
  f101 := Tryz.func100.trans (congrArg some (by kernel_rfl))
  f206 := Tryz.func109.trans (congrArg some (by kernel_rfl))
  f208 := Tryz.func106.trans (congrArg some (by kernel_rfl))
  t3 := Tryz.underlying3
  a3 := Tryz.isAgg3
  z3 := Tryz.sizeOf3
  v3 := Tryz.zeroValue3
  t4 := Tryz.underlying4
  a4 := Tryz.isAgg4
  z4 := Tryz.sizeOf4
  v4 := Tryz.zeroValue4
  t9 := Tryz.underlying9
  a9 := Tryz.isAgg9
  z9 := Tryz.sizeOf9
  v9 := Tryz.zeroValue9 }
open Go.RowKit Go.Lib in
theorem Tryz.strings_TrimPrefix (s p : ByteArray) (w : World) :
    Calls Tryz.prog 100 #[.string s, .string p] w fun e w' => e = .returned (.string ⟨(Lib.trimPrefix s.data.toList p.data.toList).toArray⟩) ∧ w' = w := Any.strings_TrimPrefix Tryz.lays101 s p w
end Go.Proofs
/-
  The writer: bounds.
-/
namespace Go.Proofs.YtphbkompnddflaaGreatDoor
open Go.RowKit

theorem dec_len (i : Nat) (hi : i < 100) : (Lib.decDigits i).length ≤ 2 := (Asc.dec_facts (i + 1) i (Nat.lt_succ_self _)).2.2.2.1 2 (by omega) (by omega)
set_option maxHeartbeats 4000000 in
set_option maxRecDepth 100000 in
theorem decimal_small (i : Nat) (hi : i < 100) (w : World) : Calls Tryz.prog 55 #[.int .i64 (i : Int)] w fun e w' => e = .returned (.string ⟨(Lib.decDigits i).toArray⟩) ∧ w' = w := by
  have HI := Lib.hid (Tryz.strconv_Itoa_small i hi w)
  go_enter Tryz.func55, Tryz.ntmps55
  go_wp2_with fail
  refine HI.out.mono ?_
  rintro e w' ⟨rfl, rfl⟩
  go_wp2_with fail
  go_ret
  exact ⟨rfl, rfl⟩
theorem WF.drew {g : Nat} {w w' : World} (h : WF g w w') : WF g w w'.drew := ⟨h.bl.drew, h.ot⟩
theorem WK.drew {g : Nat} {bs : List UInt8} {wr : Bool} {w : World} (h : WK g bs wr w) : WK g bs wr w.drew := ⟨h.blk⟩
set_option maxHeartbeats 4000000 in
set_option maxRecDepth 100000 in
theorem wbds_open (g : Nat) (bs : List UInt8) (wr : Bool) (lo : Nat) (hlo : lo < 100) (w : World) (h : WK g bs wr w) (hlen : bs.length ≤ 1000000) :
    Calls Tryz.prog 39 #[.pointer (some ⟨g, 0, none⟩), .int .i64 (lo : Int), .int .i64 (-1)] w fun e w' => e = .returned (.tuple #[]) ∧ WK g (bs ++ bdsL lo (-1)) wr w' ∧ WF g w w' := by
  have HD := Lib.hid fun W => decimal_small lo hlo W
  have HWS := Lib.hid fun (b : List UInt8) (l : List UInt8) (hb : b.length ≤ 10000000) (hl : l.length ≤ 10000000) W (hW : WK g b wr W) => wstr_any g b wr l W hW hb hl
  have HWB := Lib.hid fun (b : List UInt8) (c : UInt8) (hb : b.length ≤ 10000000) W (hW : WK g b wr W) => wbyte_any g b wr c W hW hb
  have hd2 := dec_len lo hlo
  have HE : Hid (bdsL lo (-1) = _) := Lib.hid (show bdsL lo (-1) = 123 :: (Lib.decDigits lo ++ ([44] ++ [125])) by unfold bdsL decL; simp)
  obtain ⟨D, hD⟩ : ∃ D, Lib.decDigits lo = D := ⟨_, rfl⟩
  rw [hD] at HD hd2 HE
  have n1 : ¬ 9223372036854775807 < 1 + D.length := by omega
  have H := Lib.hid h
  clear h hD hlo
  go_enter Tryz.func39, Tryz.ntmps39
  go_wp2_with fail
  refine wp_region_still_tail 6 (by rfl) (by kernel_rfl) ?_
  simp only [List.take_succ_cons, List.take_zero, List.drop_succ_cons, List.drop_zero]
  still_step
  still_step
  still_step
  still_step
  still_call (HD.out _)
  still_step
  refine wpStill_nil ?_
  change wpList _ _ _ _ _ w.drew
  have H1 := Lib.hid H.out.drew
  go_wp2_with fail
  rw [ba_app [123] D]
  refine (HWS.out bs ([123] ++ D) (by omega) (by simp; omega) _ H1.out).mono ?_
  rintro e w2 ⟨rfl, hk, hf⟩
  have HK2 := Lib.hid hk
  have HF2 := Lib.hid ((WF.refl g w).drew.trans hf)
  clear hk hf
  go_wp2_with fail
  refine (HWB.out _ 44 (by simp; omega) _ HK2.out).mono ?_
  rintro e w3 ⟨rfl, hk, hf⟩
  have HK3 := Lib.hid hk
  have HF3 := Lib.hid (HF2.out.trans hf)
  clear hk hf
  go_wp2_with fail
  refine (HWB.out _ 125 (by simp; omega) _ HK3.out).mono ?_
  rintro e w4 ⟨rfl, hk, hf⟩
  have HK4 := Lib.hid hk
  have HF4 := Lib.hid (HF3.out.trans hf)
  clear hk hf
  go_wp2_with fail
  go_end0
  exact ⟨rfl, by rw [HE.out]; have := HK4.out; simpa using this, HF4.out⟩

set_option maxHeartbeats 4000000 in
set_option maxRecDepth 100000 in
theorem wbds_same (g : Nat) (bs : List UInt8) (wr : Bool) (lo : Nat) (hlo : lo < 100) (w : World) (h : WK g bs wr w) (hlen : bs.length ≤ 1000000) :
    Calls Tryz.prog 39 #[.pointer (some ⟨g, 0, none⟩), .int .i64 (lo : Int), .int .i64 (lo : Int)] w fun e w' => e = .returned (.tuple #[]) ∧ WK g (bs ++ bdsL lo (lo : Int)) wr w' ∧ WF g w w' := by
  have HD := Lib.hid fun W => decimal_small lo hlo W
  have HWS := Lib.hid fun (b : List UInt8) (l : List UInt8) (hb : b.length ≤ 10000000) (hl : l.length ≤ 10000000) W (hW : WK g b wr W) => wstr_any g b wr l W hW hb hl
  have HWB := Lib.hid fun (b : List UInt8) (c : UInt8) (hb : b.length ≤ 10000000) W (hW : WK g b wr W) => wbyte_any g b wr c W hW hb
  have hd2 := dec_len lo hlo
  have HE : Hid (bdsL lo (lo : Int) = _) := Lib.hid (show bdsL lo (lo : Int) = 123 :: (Lib.decDigits lo ++ ([] ++ [125])) by unfold bdsL decL; rw [if_neg (by omega), if_pos rfl]; simp)
  obtain ⟨D, hD⟩ : ∃ D, Lib.decDigits lo = D := ⟨_, rfl⟩
  rw [hD] at HD hd2 HE
  have n1 : ¬ 9223372036854775807 < 1 + D.length := by omega
  have H := Lib.hid h
  have z1 : ((lo : Int) == -1) = false := by rw [beq_eq_false_iff_ne]; omega
  clear h hD hlo
  go_enter Tryz.func39, Tryz.ntmps39
  go_wp2_with fail
  refine wp_region_still_tail 6 (by rfl) (by kernel_rfl) ?_
  simp only [List.take_succ_cons, List.take_zero, List.drop_succ_cons, List.drop_zero]
  still_step
  still_step
  still_step
  still_step
  still_call (HD.out _)
  still_step
  refine wpStill_nil ?_
  change wpList _ _ _ _ _ w.drew
  have H1 := Lib.hid H.out.drew
  go_wp2_with fail
  rw [ba_app [123] D]
  refine (HWS.out bs ([123] ++ D) (by omega) (by simp; omega) _ H1.out).mono ?_
  rintro e w2 ⟨rfl, hk, hf⟩
  have HK2 := Lib.hid hk
  have HF2 := Lib.hid ((WF.refl g w).drew.trans hf)
  clear hk hf
  go_wp2_with fail
  refine (HWB.out _ 125 (by simp; omega) _ HK2.out).mono ?_
  rintro e w3 ⟨rfl, hk, hf⟩
  have HK3 := Lib.hid hk
  have HF3 := Lib.hid (HF2.out.trans hf)
  clear hk hf
  go_wp2_with fail
  go_end0
  exact ⟨rfl, by rw [HE.out]; have := HK3.out; simpa using this, HF3.out⟩

set_option maxHeartbeats 4000000 in
set_option maxRecDepth 100000 in
theorem wbds_two (g : Nat) (bs : List UInt8) (wr : Bool) (lo : Nat) (hi : Nat) (hhi : hi < 100) (hne : hi ≠ lo) (hlo : lo < 100) (w : World) (h : WK g bs wr w) (hlen : bs.length ≤ 1000000) :
    Calls Tryz.prog 39 #[.pointer (some ⟨g, 0, none⟩), .int .i64 (lo : Int), .int .i64 (hi : Int)] w fun e w' => e = .returned (.tuple #[]) ∧ WK g (bs ++ bdsL lo (hi : Int)) wr w' ∧ WF g w w' := by
  have HD := Lib.hid fun W => decimal_small lo hlo W
  have HWS := Lib.hid fun (b : List UInt8) (l : List UInt8) (hb : b.length ≤ 10000000) (hl : l.length ≤ 10000000) W (hW : WK g b wr W) => wstr_any g b wr l W hW hb hl
  have HWB := Lib.hid fun (b : List UInt8) (c : UInt8) (hb : b.length ≤ 10000000) W (hW : WK g b wr W) => wbyte_any g b wr c W hW hb
  have hd2 := dec_len lo hlo
  have HE : Hid (bdsL lo (hi : Int) = _) := Lib.hid (show bdsL lo (hi : Int) = 123 :: (Lib.decDigits lo ++ (44 :: Lib.decDigits hi ++ [125])) by unfold bdsL decL; rw [if_neg (by omega), if_neg (by omega)]; simp)
  obtain ⟨D, hD⟩ : ∃ D, Lib.decDigits lo = D := ⟨_, rfl⟩
  rw [hD] at HD hd2 HE
  have n1 : ¬ 9223372036854775807 < 1 + D.length := by omega
  have H := Lib.hid h
  have z1 : ((hi : Int) == -1) = false := by rw [beq_eq_false_iff_ne]; omega
  have z2 : ((hi : Int) == (lo : Int)) = false := by rw [beq_eq_false_iff_ne]; omega
  have z3 : ((hi : Int) != (lo : Int)) = true := by simp; omega
  have HD2 := Lib.hid fun W => decimal_small hi hhi W
  have hd3 := dec_len hi hhi
  obtain ⟨D2, hD2⟩ : ∃ D, Lib.decDigits hi = D := ⟨_, rfl⟩
  rw [hD2] at HD2 hd3 HE
  have n2 : ¬ 9223372036854775807 < 1 + D2.length := by omega
  clear hhi hne hD2
  clear h hD hlo
  go_enter Tryz.func39, Tryz.ntmps39
  go_wp2_with fail
  refine wp_region_still_tail 6 (by rfl) (by kernel_rfl) ?_
  simp only [List.take_succ_cons, List.take_zero, List.drop_succ_cons, List.drop_zero]
  still_step
  still_step
  still_step
  still_step
  still_call (HD.out _)
  still_step
  refine wpStill_nil ?_
  change wpList _ _ _ _ _ w.drew
  have H1 := Lib.hid H.out.drew
  go_wp2_with fail
  rw [ba_app [123] D]
  refine (HWS.out bs ([123] ++ D) (by omega) (by simp; omega) _ H1.out).mono ?_
  rintro e w2 ⟨rfl, hk, hf⟩
  have HK2 := Lib.hid hk
  have HF2 := Lib.hid ((WF.refl g w).drew.trans hf)
  clear hk hf
  go_wp2_with fail
  refine wp_region_still_tail 6 (by rfl) (by kernel_rfl) ?_
  simp only [List.take_succ_cons, List.take_zero, List.drop_succ_cons, List.drop_zero]
  still_step
  still_step
  still_step
  still_step
  still_call (HD2.out _)
  still_step
  refine wpStill_nil ?_
  change wpList _ _ _ _ _ w2.drew
  have HK2d := Lib.hid HK2.out.drew
  go_wp2_with fail
  rw [ba_app [44] D2]
  refine (HWS.out _ ([44] ++ D2) (by simp; omega) (by simp; omega) _ HK2d.out).mono ?_
  rintro e w3 ⟨rfl, hk, hf⟩
  have HK3 := Lib.hid hk
  have HF3 := Lib.hid (HF2.out.drew.trans hf)
  clear hk hf
  go_wp2_with fail
  refine (HWB.out _ 125 (by simp; omega) _ HK3.out).mono ?_
  rintro e w4 ⟨rfl, hk, hf⟩
  have HK4 := Lib.hid hk
  have HF4 := Lib.hid (HF3.out.trans hf)
  clear hk hf
  go_wp2_with fail
  go_end0
  exact ⟨rfl, by rw [HE.out]; have := HK4.out; simpa using this, HF4.out⟩

theorem wbds_any (g : Nat) (bs : List UInt8) (wr : Bool) (lo hi : Int) (h0 : 0 ≤ lo) (h1 : lo ≤ 40) (h2 : hi = -1 ∨ (lo ≤ hi ∧ hi ≤ 40)) (w : World) (h : WK g bs wr w) (hlen : bs.length ≤ 1000000) :
    Calls Tryz.prog 39 #[.pointer (some ⟨g, 0, none⟩), .int .i64 lo, .int .i64 hi] w fun e w' => e = .returned (.tuple #[]) ∧ WK g (bs ++ bdsL lo hi) wr w' ∧ WF g w w' := by
  obtain ⟨l, rfl⟩ : ∃ l : Nat, lo = l := ⟨lo.toNat, by omega⟩
  rcases h2 with rfl | ⟨h3, h4⟩
  · exact wbds_open g bs wr l (by omega) w h hlen
  · obtain ⟨m, rfl⟩ : ∃ m : Nat, hi = m := ⟨hi.toNat, by omega⟩
    by_cases e : m = l
    · subst e
      exact wbds_same g bs wr m (by omega) w h hlen
    · exact wbds_two g bs wr l m (by omega) e (by omega) w h hlen
theorem bdsL_len (lo hi : Int) (h0 : 0 ≤ lo) (h1 : lo ≤ 40) (h2 : hi = -1 ∨ (lo ≤ hi ∧ hi ≤ 40)) : (bdsL lo hi).length ≤ 7 := by
  have d1 := dec_len lo.toNat (by omega)
  have d2 := dec_len hi.toNat (by omega)
  unfold bdsL decL
  split
  · simp; omega
  · split <;> simp <;> omega
end Go.Proofs.YtphbkompnddflaaGreatDoor
/-
  The writer: a node within parentheses, or without.
-/
namespace Go.Proofs.YtphbkompnddflaaGreatDoor
open Go.RowKit

/-- A node's six cells in a block of their own. -/
def NBx (q : Nat) (op : Int) (ra : Option Addr) (rn rc : Nat) (nm : List UInt8) (a : Option Addr) (n cp : Nat) (mn mx : Int) (W : World) : Prop := W.heap[q]? = some (.cells #[.int .i64 op, .slice ra rn rc, .string ⟨nm.toArray⟩, .slice a n cp, .int .i64 mn, .int .i64 mx] 25 (0, 0))
section
variable {q g : Nat} {op : Int} {ra : Option Addr} {rn rc : Nat} {nm : List UInt8} {a : Option Addr} {n cp : Nat} {mn mx : Int} {W W' : World}
theorem NBx.new (W : World) (op : Int) (ra : Option Addr) (rn rc : Nat) (nm : List UInt8) (a : Option Addr) (n cp : Nat) (mn mx : Int) : NBx W.heap.size op ra rn rc nm a n cp mn mx (W.alloc (.cells #[.int .i64 op, .slice ra rn rc, .string ⟨nm.toArray⟩, .slice a n cp, .int .i64 mn, .int .i64 mx] 25)) := heap_alloc_new W _
theorem NBx.wf (h : NBx q op ra rn rc nm a n cp mn mx W) (k : WF g W W') (hq : q ≠ g) : NBx q op ra rn rc nm a n cp mn mx W' := k.ot q _ h (fun e => hq (Option.some.inj e)) (fun c fz e => by injection e with _ e2 _; exact absurd e2 (by decide))
theorem NBx.on (h : NBx q op ra rn rc nm a n cp mn mx W) (k : Below W.heap.size W W') : NBx q op ra rn rc nm a n cp mn mx W' := (k.block q (Array.getElem?_eq_some_iff.1 h).1).trans h
theorem NBx.lt (h : NBx q op ra rn rc nm a n cp mn mx W) : q < W.heap.size := (Array.getElem?_eq_some_iff.1 h).1
theorem NBx.cells (h : NBx q op ra rn rc nm a n cp mn mx W) : W.cell? ⟨q, 0, none⟩ = some (.int .i64 op) ∧ W.cell? ⟨q, 1, none⟩ = some (.slice ra rn rc) ∧ W.cell? ⟨q, 2, none⟩ = some (.string ⟨nm.toArray⟩) ∧ W.cell? ⟨q, 3, none⟩ = some (.slice a n cp) ∧ W.cell? ⟨q, 4, none⟩ = some (.int .i64 mn) ∧ W.cell? ⟨q, 5, none⟩ = some (.int .i64 mx) :=
  ⟨Lib.cell_of_heap h 0, Lib.cell_of_heap h 1, Lib.cell_of_heap h 2, Lib.cell_of_heap h 3, Lib.cell_of_heap h 4, Lib.cell_of_heap h 5⟩
end
/-- How a node is written where its operation may want parentheses. -/
def insK (ops : List Int) (t : NT) : List UInt8 := if opOf t ∈ ops then 40 :: (nodL t ++ [41]) else nodL t
/-- The call that writes a node, wherever it comes. -/
def NdC (t : NT) : Prop := ∀ (v : Value) (w0 w : World) (g : Nat) (bs : List UInt8) (wr : Bool), NAt w0 t v → Below w0.heap.size w0 w → w0.heap.size ≤ g → WK g bs wr w → bs.length + (nodL t).length ≤ 900000 →
  Calls Tryz.prog 22 #[.pointer (some ⟨g, 0, none⟩), v] w fun e w' => e = .returned (.tuple #[]) ∧ WK g (bs ++ nodL t) (wr || wrgL t) w' ∧ WF g w w'
set_option maxHeartbeats 4000000 in
set_option maxRecDepth 100000 in
theorem inside_any (t : NT) (hn : NdC t) (ops : List Int) (v : Value) (w0 w : World) (g ob : Nat) (bs : List UInt8) (bw : Bool) (h : NAt w0 t v) (hB : Below w0.heap.size w0 w) (hg : w0.heap.size ≤ g) (hk : WK g bs bw w) (hlen : bs.length + (insK ops t).length ≤ 900000)
    (hol : ops.length ≤ 10) (ho : ∀ j (hj : j < ops.length), w.cell? ⟨ob, j, none⟩ = some (.int .i64 ops[j])) (hob : ob < w.heap.size) :
    Calls Tryz.prog 38 #[.pointer (some ⟨g, 0, none⟩), v, .slice (some ⟨ob, 0, none⟩) ops.length ops.length] w fun e w' => e = .returned (.tuple #[]) ∧ WK g (bs ++ insK ops t) (bw || wrgL t) w' ∧ WF g w w' := by
  have HN := Lib.hid hn
  have HNA := Lib.hid h
  have HO := Lib.hid ho
  have HWB := Lib.hid fun (b : List UInt8) (r : Bool) (c : UInt8) (hb : b.length ≤ 10000000) W (hW : WK g b r W) => wbyte_any g b r c W hW hb
  have HKT := Lib.hid (show insK ops t = if opOf t ∈ ops then 40 :: (nodL t ++ [41]) else nodL t from rfl)
  obtain ⟨op, rs, nm, kids, mn, mx, ra, rc, a, cp, ht, rfl, _⟩ := h.open
  have hop : opOf t = op := by rw [ht]; rfl
  have HBX := Lib.hid (NBx.new w op ra rs.length rc nm a kids.length cp mn mx)
  have hal := al_below w (.cells #[.int .i64 op, .slice ra rs.length rc, .string ⟨nm.toArray⟩, .slice a kids.length cp, .int .i64 mn, .int .i64 mx] 25)
  have HK0 := Lib.hid (hk.on hal)
  have HF0 := Lib.hid (WF.of_below hal hk.lt)
  have HB0 := Lib.hid (hB.trans (hal.mono hB.size))
  have HO0 : Hid (∀ j (hj : j < ops.length), (w.alloc (.cells #[.int .i64 op, .slice ra rs.length rc, .string ⟨nm.toArray⟩, .slice a kids.length cp, .int .i64 mn, .int .i64 mx] 25)).cell? ⟨ob, j, none⟩ = some (.int .i64 ops[j])) := Lib.hid (fun j hj => (hal.cell (p := ⟨ob, j, none⟩) hob).trans (HO.out j hj))
  rw [hop] at HKT
  obtain ⟨q, hq⟩ : ∃ q, w.heap.size = q := ⟨_, rfl⟩
  have hqg : q ≠ g := by have := hk.lt; omega
  rw [hq] at HBX
  obtain ⟨w1, hw1⟩ : ∃ w1, w.alloc (.cells #[.int .i64 op, .slice ra rs.length rc, .string ⟨nm.toArray⟩, .slice a kids.length cp, .int .i64 mn, .int .i64 mx] 25) = w1 := ⟨_, rfl⟩
  rw [hw1] at HBX HK0 HF0 HB0 HO0
  have hobw : ob < w1.heap.size := by have := hal.size; rw [hw1] at this; omega
  clear hn h ho hal hk hB ht hop
  go_enter Tryz.func38, Tryz.ntmps38
  go_wp2_with fail
  try rw [hq]
  try rw [hw1]
  clear hq hw1
  go_loopw [10] (fun i wr => ∃ k : Nat, i = .int .i64 k ∧ k ≤ ops.length ∧ Hid (∀ j (hj : j < ops.length), j < k → ops[j] ≠ op) ∧ wr = w1) (fun i _ => ops.length - (intOf i).toNat)
  case atStart => exact ⟨0, rfl, by omega, Lib.hid (fun j _ h => by omega), rfl⟩
  case round =>
    obtain ⟨k, rfl, hkl, HNO, rfl⟩ := hrel
    obtain ⟨b0, b1, b2, b3, b4, b5⟩ := HBX.out.cells
    by_cases hlt : k < ops.length
    · have ec := HO0.out k hlt
      have i1 : (k : Int) < (ops.length : Int) := by omega
      have i2 : (0 : Int) ≤ (k : Int) := by omega
      have hw1 : IntKind.i64.wrap ((k : Int) + 1) = (k : Int) + 1 := IntWalk.i64_in _ (by omega)
      have HMEM : Hid (ops[k] = op → op ∈ ops) := Lib.hid (fun e => e ▸ List.getElem_mem hlt)
      obtain ⟨o, ho⟩ : ∃ o, ops[k] = o := ⟨_, rfl⟩
      have HOK := Lib.hid ho
      rw [ho] at ec HMEM
      clear ho
      by_cases he : o = op
      · subst he
        have z1 : ((o : Int) == o) = true := by simp
        have HE := Lib.hid (HKT.out.trans (if_pos (HMEM.out rfl)))
        have hLL : (insK ops t).length = (nodL t).length + 2 := by rw [HE.out]; simp
        go_wp2_with fail
        refine (HWB.out bs bw 40 (by omega) _ HK0.out).mono ?_
        rintro e w2 ⟨rfl, hk2, hf2⟩
        have HK2 := Lib.hid hk2
        have HF2 := Lib.hid (HF0.out.trans hf2)
        have HB2 := Lib.hid (HB0.out.trans (hf2.bl.mono hg))
        have HBX2 := Lib.hid (HBX.out.wf hf2 hqg)
        clear hk2 hf2 ec b0 b1 b2 b3 b4 b5
        obtain ⟨b0, b1, b2, b3, b4, b5⟩ := HBX2.out.cells
        go_wp2_with fail
        refine (HN.out _ w0 w2 g (bs ++ [40]) bw HNA.out HB2.out hg HK2.out (by simp; omega)).mono ?_
        rintro e w3 ⟨rfl, hk3, hf3⟩
        have HK3 := Lib.hid hk3
        have HF3 := Lib.hid (HF2.out.trans hf3)
        clear hk3 hf3 b0 b1 b2 b3 b4 b5
        go_wp2_with fail
        refine (HWB.out _ _ 41 (by simp; omega) _ HK3.out).mono ?_
        rintro e w4 ⟨rfl, hk4, hf4⟩
        have HK4 := Lib.hid hk4
        have HF4 := Lib.hid (HF3.out.trans hf4)
        clear hk4 hf4
        go_wp2_with fail
        refine bodyPost_ret (results_none rfl _ _ _) rfl ?_
        exact ⟨rfl, by rw [HE.out]; have := HK4.out; simpa using this, HF4.out⟩
      · have z1 : ((op : Int) == o) = false := by rw [beq_eq_false_iff_ne]; exact fun e => he e.symm
        go_wp2_with fail
        refine ⟨⟨k + 1, by go_num, by omega, Lib.hid (fun j hj hjk => ?_), by first | rfl | trivial⟩, by simp [intOf]; omega⟩
        by_cases e : j = k
        · subst e
          rw [HOK.out]
          exact he
        · exact HNO.out j hj (by omega)
    · have z1 : decide ((k : Int) < (ops.length : Int)) = false := decide_eq_false (by omega)
      have y1 : decide (k < ops.length) = false := decide_eq_false hlt
      have hnm : op ∉ ops := fun hm => by
        obtain ⟨j, hj, e⟩ := List.getElem_of_mem hm
        exact HNO.out j hj (by omega) e
      have HE := Lib.hid (HKT.out.trans (if_neg hnm))
      have hLL : (insK ops t).length = (nodL t).length := by rw [HE.out]
      clear hnm
      go_wp2_with fail
      refine (HN.out _ w0 wr g bs _ HNA.out HB0.out hg HK0.out (by omega)).mono ?_
      rintro e w3 ⟨rfl, hk3, hf3⟩
      have HK3 := Lib.hid hk3
      have HF3 := Lib.hid (HF0.out.trans hf3)
      clear hk3 hf3
      go_wp2_with fail
      go_end0
      exact ⟨rfl, by rw [HE.out]; exact HK3.out, HF3.out⟩
end Go.Proofs.YtphbkompnddflaaGreatDoor
/-
  The writer: nodes, plainly: lengths, shapes.
-/
namespace Go.Proofs.YtphbkompnddflaaGreatDoor
open Go.RowKit

theorem srt_len {rs : List (UInt8 × UInt8)} (h : srtB rs = true) : rs.length ≤ 256 := by
  have hs : 0 < rs.length ∧ ∀ i (h : i < rs.length), okR rs i h := by
    by_cases hh : 0 < rs.length ∧ ∀ i (h : i < rs.length), okR rs i h
    · exact hh
    · rw [srtB_no hh] at h
      cases h
  have key : ∀ i (hi : i < rs.length), i ≤ rs[i].2.toNat := by
    intro i
    induction i with
    | zero => intro _; omega
    | succ i ih =>
      intro hi
      have h1 := ih (by omega)
      have h2 := hs.2 (i + 1) hi
      unfold okR at h2
      have h3 := h2.2 (by omega)
      simp only [Nat.add_sub_cancel] at h3
      omega
  rcases Nat.lt_or_ge 256 rs.length with hlt | hge
  · have := key 256 hlt
    have := UInt8.toNat_lt rs[256].2
    omega
  · exact hge
/-- What the check says of a node's own parts. -/
theorem shE_zero {op : Int} {rs : List (UInt8 × UInt8)} {nm : List UInt8} {n : Nat} {mn mx : Int} (h : shE op rs nm n mn mx = 0) : shpB op rs nm n mn mx = true ∧ (op = 5 → nmB nm = true) ∧ (op = 4 → badR mn mx = false) := by
  unfold shE at h
  split at h
  · cases h
  · next h1 =>
    split at h
    · cases h
    · next h2 =>
      split at h
      · cases h
      · next h3 =>
        refine ⟨by simpa using h1, fun h5 => ?_, fun h4 => ?_⟩
        · cases hb : nmB nm with
          | true => rfl
          | false => exact absurd ⟨h5, hb⟩ h2
        · cases hb : badR mn mx with
          | false => rfl
          | true => exact absurd ⟨h4, hb⟩ h3
theorem badR_no {mn mx : Int} (h : badR mn mx = false) : 0 ≤ mn ∧ mn ≤ 40 ∧ (mx = -1 ∨ (mn ≤ mx ∧ mx ≤ 40)) := by
  unfold badR at h
  have := of_decide_eq_false h
  omega
theorem shp_cases {op : Int} {rs : List (UInt8 × UInt8)} {nm : List UInt8} {n : Nat} {mn mx : Int} (h : shpB op rs nm n mn mx = true) :
    (op = 0 ∧ n = 0) ∨ (op = 6 ∧ n = 0) ∨ (op = 7 ∧ n = 0) ∨ (op = 1 ∧ n = 0 ∧ srtB rs = true) ∨ (op = 2 ∧ 2 ≤ n) ∨ (op = 3 ∧ 2 ≤ n) ∨ (op = 4 ∧ n = 1) ∨ (op = 5 ∧ n = 1) := by
  unfold shpB at h
  split at h
  · next h1 =>
    simp only [Bool.and_eq_true, decide_eq_true_eq] at h
    rcases h1 with rfl | rfl | rfl
    · exact .inl ⟨rfl, h.1⟩
    · exact .inr (.inl ⟨rfl, h.1⟩)
    · exact .inr (.inr (.inl ⟨rfl, h.1⟩))
  split at h
  · next h1 =>
    simp only [Bool.and_eq_true, decide_eq_true_eq] at h
    exact .inr (.inr (.inr (.inl ⟨h1, h.1, h.2.1⟩)))
  split at h
  · next h1 =>
    simp only [Bool.and_eq_true, decide_eq_true_eq] at h
    rcases h1 with rfl | rfl
    · exact .inr (.inr (.inr (.inr (.inl ⟨rfl, h.1⟩))))
    · exact .inr (.inr (.inr (.inr (.inr (.inl ⟨rfl, h.1⟩)))))
  split at h
  · next h1 =>
    simp only [Bool.and_eq_true, decide_eq_true_eq] at h
    exact .inr (.inr (.inr (.inr (.inr (.inr (.inl ⟨h1, h.1⟩))))))
  split at h
  · next h1 =>
    simp only [Bool.and_eq_true, decide_eq_true_eq] at h
    exact .inr (.inr (.inr (.inr (.inr (.inr (.inr ⟨h1, h.1⟩))))))
  · cases h
theorem goods_at {ks : List NT} (h : Goods ks) : ∀ k ∈ ks, Good k := by
  induction ks with
  | nil => intro k hk; cases hk
  | cons x ks ih =>
    rw [Goods] at h
    intro k hk
    rcases List.mem_cons.1 hk with rfl | hk
    · exact h.1
    · exact ih h.2 k hk
theorem nm_len {nm : List UInt8} (h : nmB nm = true) : nm.length ≤ 32 := by
  by_cases hh : NmOk nm
  · exact hh.2.1
  · rw [nmB_no hh] at h
    cases h
theorem clsS_len {rs : List (UInt8 × UInt8)} (h : rs.length ≤ 256) : (clsS rs).length ≤ 1283 := by
  have h1 := itmS_len h
  have h2 := itmS_len (rngs_len (fun c => !uniF rs c))
  unfold clsS
  split
  · simp; omega
  · have : negR rs = rngs (fun c => !uniF rs c) 0 := rfl
    rw [this]
    simp
    omega
theorem insK_len (ops : List Int) (t : NT) : (insK ops t).length ≤ (nodL t).length + 2 := by
  unfold insK
  split <;> simp
theorem insL_nil (ops : List Int) : insL ops [] = [] := by rw [insL]
theorem altT_nil : altT [] = [] := by rw [altT]
theorem wrgs_nil : wrgs [] = false := by rw [wrgs]
theorem wrgs_cons (k : NT) (ks : List NT) : wrgs (k :: ks) = (wrgL k || wrgs ks) := by rw [wrgs]
theorem insL_cons (ops : List Int) (k : NT) (ks : List NT) : insL ops (k :: ks) = insK ops k ++ insL ops ks := by rw [insL]; rfl
theorem altT_cons (k : NT) (ks : List NT) : altT (k :: ks) = 124 :: (insK [3] k ++ altT ks) := by rw [altT]; rfl
theorem altS_cons (k : NT) (ks : List NT) : altS (k :: ks) = insK [3] k ++ altT ks := by rw [altS]; rfl
theorem insL_snoc (ops : List Int) (ks : List NT) (k : NT) : insL ops (ks ++ [k]) = insL ops ks ++ insK ops k := by
  induction ks with
  | nil => rw [List.nil_append, insL_cons, insL_nil, List.append_nil, List.nil_append]
  | cons x ks ih => rw [List.cons_append, insL_cons, insL_cons, ih, List.append_assoc]
theorem altT_snoc (ks : List NT) (k : NT) : altT (ks ++ [k]) = altT ks ++ 124 :: insK [3] k := by
  induction ks with
  | nil => rw [List.nil_append, altT_cons, altT_nil, List.append_nil, List.nil_append]
  | cons x ks ih => rw [List.cons_append, altT_cons, altT_cons, ih]; simp
theorem altS_snoc {ks : List NT} (h : ks ≠ []) (k : NT) : altS (ks ++ [k]) = altS ks ++ 124 :: insK [3] k := by
  cases ks with
  | nil => exact absurd rfl h
  | cons x ks => rw [List.cons_append, altS_cons, altS_cons, altT_snoc]; simp
theorem wrgs_snoc (ks : List NT) (k : NT) : wrgs (ks ++ [k]) = (wrgs ks || wrgL k) := by
  induction ks with
  | nil => rw [List.nil_append, wrgs_cons, wrgs_nil, Bool.or_false, Bool.false_or]
  | cons x ks ih => rw [List.cons_append, wrgs_cons, wrgs_cons, ih, Bool.or_assoc]
theorem insL_pre (ops : List Int) (ks : List NT) (k : Nat) (h : k < ks.length) : (insL ops (ks.take k)).length + (insK ops ks[k]).length ≤ (insL ops ks).length := by
  conv => rhs; rw [← List.take_append_drop (k + 1) ks]
  rw [Asc.snoc_take ks k h]
  have : ∀ a b : List NT, insL ops (a ++ b) = insL ops a ++ insL ops b := by
    intro a b
    induction a with
    | nil => rw [insL_nil]; rfl
    | cons x a ih => rw [List.cons_append, insL_cons, insL_cons, ih, List.append_assoc]
  rw [this, insL_snoc]
  simp
theorem altT_app (a b : List NT) : altT (a ++ b) = altT a ++ altT b := by
  induction a with
  | nil => rw [altT_nil]; rfl
  | cons x a ih => rw [List.cons_append, altT_cons, altT_cons, ih]; simp
theorem altS_pre (ks : List NT) (k : Nat) (h : k < ks.length) : (altS (ks.take k)).length + (insK [3] ks[k]).length + (if k = 0 then 0 else 1) ≤ (altS ks).length := by
  cases ks with
  | nil => simp at h
  | cons x ks =>
    cases k with
    | zero => rw [altS_cons]; simp [altS]
    | succ k =>
      have hk : k < ks.length := by simpa using h
      rw [List.take_succ_cons, altS_cons, altS_cons]
      have : altT ks = altT (ks.take k) ++ 124 :: insK [3] ks[k] ++ altT (ks.drop (k + 1)) := by
        conv => lhs; rw [← List.take_append_drop (k + 1) ks]
        rw [altT_app, Asc.snoc_take ks k hk, altT_snoc]
      rw [this]
      simp
      omega
end Go.Proofs.YtphbkompnddflaaGreatDoor
/-
  The writer: a node, each kind.
-/
namespace Go.Proofs.YtphbkompnddflaaGreatDoor
open Go.RowKit

theorem WK.cell2 {g : Nat} {bs : List UInt8} {wr : Bool} {w : World} (h : WK g bs wr w) : w.cell? ⟨g, 2, none⟩ = some (.bool wr) ∧ w.frozen? ⟨g, 2, none⟩ = false := by
  obtain ⟨p, v, hb, _⟩ := h.blk
  exact ⟨Lib.cell_of_heap hb 2, Lib.frozen_of_heap hb 2⟩
theorem WK.wrong {g : Nat} {bs : List UInt8} {wr : Bool} {w : World} (h : WK g bs wr w) (r : Bool) : WK g bs r (w.setCell ⟨g, 2, none⟩ (.bool r)) ∧ WF g w (w.setCell ⟨g, 2, none⟩ (.bool r)) := by
  obtain ⟨p, v, hb, hp, ho⟩ := h.blk
  exact ⟨⟨p, v, heap_setCell_same w g 2 _ _ _ hb, hp, own_at ho fun k hk => Below.heap_setCell _ _ _ k (by have := (ho.lt k hk).1; simp; omega)⟩, (Below.refl _ _).setCell (p := ⟨g, 2, none⟩) (Nat.le_refl _) _, Lib.OthersKept.setCell (Lib.OthersKept.refl _ _ _) ⟨g, 2, none⟩ rfl _⟩
/-- Where the walk of a node stands: the writer, what is left alone, the box of the node. -/
structure WS_ (g : Nat) (w0 w : World) (bs : List UInt8) (wr : Bool) (op : Int) (ra : Option Addr) (rn rc : Nat) (nm : List UInt8) (a : Option Addr) (n cp : Nat) (mn mx : Int) (W : World) : Prop where
  wk : WK g bs wr W
  wf : WF g w W
  bl : Below w0.heap.size w0 W
  bx : NBx w.heap.size op ra rn rc nm a n cp mn mx W
  hg : w0.heap.size ≤ g
  gl : g < w.heap.size
section
variable {g : Nat} {w0 w W W' : World} {bs bs' : List UInt8} {wr wr' : Bool} {op : Int} {ra : Option Addr} {rn rc : Nat} {nm : List UInt8} {a : Option Addr} {n cp : Nat} {mn mx : Int}
theorem WS_.go (h : WS_ g w0 w bs wr op ra rn rc nm a n cp mn mx W) (hk : WK g bs' wr' W') (hf : WF g W W') : WS_ g w0 w bs' wr' op ra rn rc nm a n cp mn mx W' :=
  ⟨hk, h.wf.trans hf, h.bl.trans (hf.bl.mono h.hg), h.bx.wf hf (Nat.ne_of_gt h.gl), h.hg, h.gl⟩
theorem WS_.on (h : WS_ g w0 w bs wr op ra rn rc nm a n cp mn mx W) (k : Below W.heap.size W W') : WS_ g w0 w bs wr op ra rn rc nm a n cp mn mx W' :=
  ⟨h.wk.on k, h.wf.trans (WF.of_below k h.wk.lt), h.bl.trans (k.mono h.bl.size), h.bx.on k, h.hg, h.gl⟩
theorem WS_.start (hk : WK g bs wr w) (hB : Below w0.heap.size w0 w) (hg : w0.heap.size ≤ g) (op : Int) (ra : Option Addr) (rn rc : Nat) (nm : List UInt8) (a : Option Addr) (n cp : Nat) (mn mx : Int) :
    WS_ g w0 w bs wr op ra rn rc nm a n cp mn mx (w.alloc (.cells #[.int .i64 op, .slice ra rn rc, .string ⟨nm.toArray⟩, .slice a n cp, .int .i64 mn, .int .i64 mx] 25)) :=
  ⟨hk.on (al_below w _), WF.of_below (al_below w _) hk.lt, hB.trans ((al_below w _).mono hB.size), NBx.new w op ra rn rc nm a n cp mn mx, hg, hk.lt⟩
theorem WS_.drew (h : WS_ g w0 w bs wr op ra rn rc nm a n cp mn mx W) : WS_ g w0 w bs wr op ra rn rc nm a n cp mn mx W.drew := h.on ((Below.refl _ _).drew)
end
theorem nodL_insK (ops : List Int) (t : NT) : (nodL t).length ≤ (insK ops t).length := by
  unfold insK
  split <;> simp
  omega
theorem altS_nil : altS [] = [] := by rw [altS]
theorem altS_step (ks : List NT) (k : Nat) (h : k < ks.length) : altS (ks.take (k + 1)) = altS (ks.take k) ++ ((if k = 0 then [] else [124]) ++ insK [3] ks[k]) := by
  rw [Asc.snoc_take ks k h]
  cases k with
  | zero => rw [List.take_zero, List.nil_append, altS_cons, altS_nil, altT_nil]; simp
  | succ k =>
    have hne : ks.take (k + 1) ≠ [] := fun e => by
      have h1 := congrArg List.length e
      rw [List.length_take, List.length_nil] at h1
      omega
    rw [altS_snoc hne, if_neg (by omega)]
    rfl
theorem inside_at (t : NT) (hn : NdC t) (ops : List Int) (n : Nat) (hl : ops.length = n) (v : Value) (w0 w : World) (g ob : Nat) (bs : List UInt8) (bw : Bool) (h : NAt w0 t v) (hB : Below w0.heap.size w0 w) (hg : w0.heap.size ≤ g) (hk : WK g bs bw w) (hlen : bs.length + (insK ops t).length ≤ 900000)
    (hol : n ≤ 10) (ho : ∀ j (hj : j < ops.length), w.cell? ⟨ob, j, none⟩ = some (.int .i64 ops[j])) (hob : ob < w.heap.size) :
    Calls Tryz.prog 38 #[.pointer (some ⟨g, 0, none⟩), v, .slice (some ⟨ob, 0, none⟩) n n] w fun e w' => e = .returned (.tuple #[]) ∧ WK g (bs ++ insK ops t) (bw || wrgL t) w' ∧ WF g w w' := by
  subst hl
  exact inside_any t hn ops v w0 w g ob bs bw h hB hg hk hlen hol ho hob
/-- What the call says. -/
def WdP (t : NT) (g : Nat) (bs : List UInt8) (wr : Bool) (w : World) (e : Ending) (w' : World) : Prop := e = .returned (.tuple #[]) ∧ WK g (bs ++ nodL t) (wr || wrgL t) w' ∧ WF g w w'

set_option maxHeartbeats 8000000 in
set_option maxRecDepth 100000 in
theorem nodz_empty (rs : List (UInt8 × UInt8)) (nm : List UInt8) (kids : List NT) (mn mx : Int) (hkd : kids = []) (v : Value) (w0 w : World) (g : Nat) (bs : List UInt8) (bw : Bool) (h : NAt w0 (.node 0 rs nm kids mn mx) v) (hB : Below w0.heap.size w0 w) (hg : w0.heap.size ≤ g) (hk : WK g bs bw w) (hlen : bs.length + (nodL (.node 0 rs nm kids mn mx)).length ≤ 900000) :
    Calls Tryz.prog 22 #[.pointer (some ⟨g, 0, none⟩), v] w (WdP (.node 0 rs nm kids mn mx) g bs bw w) := by
  have HWS := Lib.hid fun (b : List UInt8) (r : Bool) (l : List UInt8) (hb : b.length ≤ 10000000) (hl : l.length ≤ 10000000) W (hW : WK g b r W) => wstr_any g b r l W hW hb hl
  have HN : Hid (nodL (.node 0 rs nm kids mn mx) = [40, 41] ∧ wrgL (.node 0 rs nm kids mn mx) = false) := Lib.hid ⟨by rw [nodL]; rfl, by rw [wrgL, hkd, wrgs_nil]; rfl⟩
  have hb9 : bs.length ≤ 900000 := by omega
  obtain ⟨op0, rs0, nm0, kids0, mn0, mx0, ra, rc, a, cp, ht, rfl, hrg, ⟨hkl, hnl⟩, hkids⟩ := h.open
  injection ht with e1 e2 e3 e4 e5 e6
  subst e1 e2 e3 e4 e5 e6
  have HS := Lib.hid (WS_.start hk hB hg 0 ra rs.length rc nm a kids.length cp mn mx)
  obtain ⟨q, hq⟩ : ∃ q, w.heap.size = q := ⟨_, rfl⟩
  obtain ⟨b0, b1, b2, b3, b4, b5⟩ := HS.out.bx.cells
  clear hq h hrg hkids hk hB hkd
  go_enter Tryz.func22, Tryz.ntmps22
  go_wp2_with fail
  refine (HWS.out bs bw [40, 41] (by omega) (by decide) _ HS.out.wk).mono ?_
  rintro e w2 ⟨rfl, hk2, hf2⟩
  have HK2 := Lib.hid hk2
  have HF2 := Lib.hid (HS.out.wf.trans hf2)
  clear hk2 hf2
  go_wp2_with fail
  go_end0
  exact ⟨rfl, by rw [HN.out.1, HN.out.2, Bool.or_false]; exact HK2.out, HF2.out⟩
set_option maxHeartbeats 8000000 in
set_option maxRecDepth 100000 in
theorem nodz_beg (rs : List (UInt8 × UInt8)) (nm : List UInt8) (kids : List NT) (mn mx : Int) (hkd : kids = []) (v : Value) (w0 w : World) (g : Nat) (bs : List UInt8) (bw : Bool) (h : NAt w0 (.node 6 rs nm kids mn mx) v) (hB : Below w0.heap.size w0 w) (hg : w0.heap.size ≤ g) (hk : WK g bs bw w) (hlen : bs.length + (nodL (.node 6 rs nm kids mn mx)).length ≤ 900000) :
    Calls Tryz.prog 22 #[.pointer (some ⟨g, 0, none⟩), v] w (WdP (.node 6 rs nm kids mn mx) g bs bw w) := by
  have HWB := Lib.hid fun (b : List UInt8) (r : Bool) (c : UInt8) (hb : b.length ≤ 10000000) W (hW : WK g b r W) => wbyte_any g b r c W hW hb
  have HN : Hid (nodL (.node 6 rs nm kids mn mx) = [94] ∧ wrgL (.node 6 rs nm kids mn mx) = false) := Lib.hid ⟨by rw [nodL]; rfl, by rw [wrgL, hkd, wrgs_nil]; rfl⟩
  have hb9 : bs.length ≤ 900000 := by omega
  obtain ⟨op0, rs0, nm0, kids0, mn0, mx0, ra, rc, a, cp, ht, rfl, hrg, ⟨hkl, hnl⟩, hkids⟩ := h.open
  injection ht with e1 e2 e3 e4 e5 e6
  subst e1 e2 e3 e4 e5 e6
  have HS := Lib.hid (WS_.start hk hB hg 6 ra rs.length rc nm a kids.length cp mn mx)
  obtain ⟨q, hq⟩ : ∃ q, w.heap.size = q := ⟨_, rfl⟩
  obtain ⟨b0, b1, b2, b3, b4, b5⟩ := HS.out.bx.cells
  clear hq h hrg hkids hk hB hkd
  go_enter Tryz.func22, Tryz.ntmps22
  go_wp2_with fail
  refine (HWB.out bs bw 94 (by omega) _ HS.out.wk).mono ?_
  rintro e w2 ⟨rfl, hk2, hf2⟩
  have HK2 := Lib.hid hk2
  have HF2 := Lib.hid (HS.out.wf.trans hf2)
  clear hk2 hf2
  go_wp2_with fail
  go_end0
  exact ⟨rfl, by rw [HN.out.1, HN.out.2, Bool.or_false]; exact HK2.out, HF2.out⟩
set_option maxHeartbeats 8000000 in
set_option maxRecDepth 100000 in
theorem nodz_end (rs : List (UInt8 × UInt8)) (nm : List UInt8) (kids : List NT) (mn mx : Int) (hkd : kids = []) (v : Value) (w0 w : World) (g : Nat) (bs : List UInt8) (bw : Bool) (h : NAt w0 (.node 7 rs nm kids mn mx) v) (hB : Below w0.heap.size w0 w) (hg : w0.heap.size ≤ g) (hk : WK g bs bw w) (hlen : bs.length + (nodL (.node 7 rs nm kids mn mx)).length ≤ 900000) :
    Calls Tryz.prog 22 #[.pointer (some ⟨g, 0, none⟩), v] w (WdP (.node 7 rs nm kids mn mx) g bs bw w) := by
  have HWB := Lib.hid fun (b : List UInt8) (r : Bool) (c : UInt8) (hb : b.length ≤ 10000000) W (hW : WK g b r W) => wbyte_any g b r c W hW hb
  have HN : Hid (nodL (.node 7 rs nm kids mn mx) = [36] ∧ wrgL (.node 7 rs nm kids mn mx) = false) := Lib.hid ⟨by rw [nodL]; rfl, by rw [wrgL, hkd, wrgs_nil]; rfl⟩
  have hb9 : bs.length ≤ 900000 := by omega
  obtain ⟨op0, rs0, nm0, kids0, mn0, mx0, ra, rc, a, cp, ht, rfl, hrg, ⟨hkl, hnl⟩, hkids⟩ := h.open
  injection ht with e1 e2 e3 e4 e5 e6
  subst e1 e2 e3 e4 e5 e6
  have HS := Lib.hid (WS_.start hk hB hg 7 ra rs.length rc nm a kids.length cp mn mx)
  obtain ⟨q, hq⟩ : ∃ q, w.heap.size = q := ⟨_, rfl⟩
  obtain ⟨b0, b1, b2, b3, b4, b5⟩ := HS.out.bx.cells
  clear hq h hrg hkids hk hB hkd
  go_enter Tryz.func22, Tryz.ntmps22
  go_wp2_with fail
  refine (HWB.out bs bw 36 (by omega) _ HS.out.wk).mono ?_
  rintro e w2 ⟨rfl, hk2, hf2⟩
  have HK2 := Lib.hid hk2
  have HF2 := Lib.hid (HS.out.wf.trans hf2)
  clear hk2 hf2
  go_wp2_with fail
  go_end0
  exact ⟨rfl, by rw [HN.out.1, HN.out.2, Bool.or_false]; exact HK2.out, HF2.out⟩
set_option maxHeartbeats 8000000 in
set_option maxRecDepth 100000 in
theorem nodz_class (rs : List (UInt8 × UInt8)) (nm : List UInt8) (kids : List NT) (mn mx : Int) (hrl : rs.length ≤ 256) (v : Value) (w0 w : World) (g : Nat) (bs : List UInt8) (bw : Bool) (h : NAt w0 (.node 1 rs nm kids mn mx) v) (hB : Below w0.heap.size w0 w) (hg : w0.heap.size ≤ g) (hk : WK g bs bw w) (hlen : bs.length + (nodL (.node 1 rs nm kids mn mx)).length ≤ 900000) :
    Calls Tryz.prog 22 #[.pointer (some ⟨g, 0, none⟩), v] w (WdP (.node 1 rs nm kids mn mx) g bs bw w) := by
  have HWS := Lib.hid fun (b : List UInt8) (r : Bool) (l : List UInt8) (hb : b.length ≤ 10000000) (hl : l.length ≤ 10000000) W (hW : WK g b r W) => wstr_any g b r l W hW hb hl
  have HN : Hid (nodL (.node 1 rs nm kids mn mx) = clsS rs ∧ wrgL (.node 1 rs nm kids mn mx) = !clsB rs) := Lib.hid ⟨by rw [nodL]; rfl, by rw [wrgL]; rfl⟩
  have hcl := clsS_len hrl
  have hb9 : bs.length ≤ 900000 := by omega
  obtain ⟨op0, rs0, nm0, kids0, mn0, mx0, ra, rc, a, cp, ht, rfl, hrg, ⟨hkl, hnl⟩, hkids⟩ := h.open
  injection ht with e1 e2 e3 e4 e5 e6
  subst e1 e2 e3 e4 e5 e6
  have HS := Lib.hid (WS_.start hk hB hg 1 ra rs.length rc nm a kids.length cp mn mx)
  obtain ⟨q, hq⟩ : ∃ q, w.heap.size = q := ⟨_, rfl⟩
  obtain ⟨b0, b1, b2, b3, b4, b5⟩ := HS.out.bx.cells
  have HCL := Lib.hid (clsw_any rs _ _ (hrg.later HS.out.bl) hrl)
  clear hq h hrg hkids hk hB
  go_enter Tryz.func22, Tryz.ntmps22
  go_wp2_with fail
  refine HCL.out.mono ?_
  rintro e w2 ⟨rfl, hb⟩
  have HS2 := Lib.hid (HS.out.on hb)
  clear hb HS HCL b0 b1 b2 b3 b4 b5
  obtain ⟨c2, f2⟩ := HS2.out.wk.cell2
  obtain ⟨S, hS⟩ : ∃ S, clsS rs = S := ⟨_, rfl⟩
  obtain ⟨B, hBB⟩ : ∃ B, clsB rs = B := ⟨_, rfl⟩
  rw [hS] at HN hcl ⊢
  rw [hBB] at HN ⊢
  clear hS hBB
  have HWR := Lib.hid (fun r => HS2.out.wk.wrong r)
  cases bw with
  | true =>
    have HS3 := Lib.hid (HS2.out.go (HWR.out true).1 (HWR.out true).2)
    go_wp2_with fail
    refine (HWS.out bs true S (by omega) (by omega) _ HS3.out.wk).mono ?_
    rintro e w4 ⟨rfl, hk4, hf4⟩
    have HK4 := Lib.hid hk4
    have HF4 := Lib.hid (HS3.out.wf.trans hf4)
    clear hk4 hf4
    go_wp2_with fail
    go_end0
    exact ⟨rfl, by rw [HN.out.1, HN.out.2, Bool.true_or]; exact HK4.out, HF4.out⟩
  | false =>
    have HS3 := Lib.hid (HS2.out.go (HWR.out (!B)).1 (HWR.out (!B)).2)
    go_wp2_with fail
    refine (HWS.out bs (!B) S (by omega) (by omega) _ HS3.out.wk).mono ?_
    rintro e w4 ⟨rfl, hk4, hf4⟩
    have HK4 := Lib.hid hk4
    have HF4 := Lib.hid (HS3.out.wf.trans hf4)
    clear hk4 hf4
    go_wp2_with fail
    go_end0
    exact ⟨rfl, by rw [HN.out.1, HN.out.2, Bool.false_or]; exact HK4.out, HF4.out⟩
set_option maxHeartbeats 8000000 in
set_option maxRecDepth 100000 in
theorem nodz_cat (rs : List (UInt8 × UInt8)) (nm : List UInt8) (kids : List NT) (mn mx : Int) (hn : ∀ k ∈ kids, NdC k) (v : Value) (w0 w : World) (g : Nat) (bs : List UInt8) (bw : Bool) (h : NAt w0 (.node 2 rs nm kids mn mx) v) (hB : Below w0.heap.size w0 w) (hg : w0.heap.size ≤ g) (hk : WK g bs bw w) (hlen : bs.length + (nodL (.node 2 rs nm kids mn mx)).length ≤ 900000) :
    Calls Tryz.prog 22 #[.pointer (some ⟨g, 0, none⟩), v] w (WdP (.node 2 rs nm kids mn mx) g bs bw w) := by
  have HNC := Lib.hid hn
  have HN : Hid (nodL (.node 2 rs nm kids mn mx) = insL [2, 3] kids ∧ wrgL (.node 2 rs nm kids mn mx) = wrgs kids) := Lib.hid ⟨by rw [nodL]; rfl, by rw [wrgL]; rfl⟩
  have HLEN := Lib.hid (show bs.length + (insL [2, 3] kids).length ≤ 900000 by rw [← HN.out.1]; exact hlen)
  obtain ⟨op0, rs0, nm0, kids0, mn0, mx0, ra, rc, a, cp, ht, rfl, hrg, ⟨hkl, hnl⟩, hkids⟩ := h.open
  injection ht with e1 e2 e3 e4 e5 e6
  subst e1 e2 e3 e4 e5 e6
  have HS := Lib.hid (WS_.start hk hB hg 2 ra rs.length rc nm a kids.length cp mn mx)
  obtain ⟨q, hq⟩ : ∃ q, w.heap.size = q := ⟨_, rfl⟩
  obtain ⟨b0, b1, b2, b3, b4, b5⟩ := HS.out.bx.cells
  have HKD := Lib.hid hkids
  have HLN := Lib.hid hlen
  clear hq h hrg hkids hk hB hn hlen
  go_enter Tryz.func22, Tryz.ntmps22
  go_wp2_with fail
  clear b0 b1 b2 b3 b4 b5
  go_loopw [59] (fun i wr => ∃ k : Nat, i = .int .i64 k ∧ k ≤ kids.length ∧ Hid (WS_ g w0 w (bs ++ insL [2, 3] (kids.take k)) (bw || wrgs (kids.take k)) 2 ra rs.length rc nm a kids.length cp mn mx wr)) (fun i _ => kids.length - (intOf i).toNat)
  case atStart => exact ⟨0, rfl, by omega, Lib.hid (by rw [List.take_zero, insL_nil, wrgs_nil, List.append_nil, Bool.or_false]; exact HS.out)⟩
  case round =>
    obtain ⟨k, rfl, hkl2, HSk⟩ := hrel
    by_cases hlt : k < kids.length
    · have i1 : (k : Int) < (kids.length : Int) := by omega
      have i2 : (0 : Int) ≤ (k : Int) := by omega
      have hw1 : IntKind.i64.wrap ((k : Int) + 1) = (k : Int) + 1 := IntWalk.i64_in _ (by omega)
      obtain ⟨blk, off, op2, ra2, rn2, rc2, nm2, a2, n2, cp2, mn2, mx2, hae, hbl, k0, k1, k2, k3, k4, k5, hkn⟩ := HKD.out k hlt
      obtain rfl := hae
      have e0 := (HSk.out.bl.cell (p := ⟨blk, off + k * 6, none⟩) hbl).trans k0
      have e1 := (HSk.out.bl.cell (p := ⟨blk, off + k * 6 + 1, none⟩) hbl).trans k1
      have e2 := (HSk.out.bl.cell (p := ⟨blk, off + k * 6 + 2, none⟩) hbl).trans k2
      have e3 := (HSk.out.bl.cell (p := ⟨blk, off + k * 6 + 3, none⟩) hbl).trans k3
      have e4 := (HSk.out.bl.cell (p := ⟨blk, off + k * 6 + 4, none⟩) hbl).trans k4
      have e5 := (HSk.out.bl.cell (p := ⟨blk, off + k * 6 + 5, none⟩) hbl).trans k5
      have HKN := Lib.hid hkn
      clear k0 k1 k2 k3 k4 k5 hkn
      have HPRE := Lib.hid (insL_pre [2, 3] kids k hlt)
      have HIK := Lib.hid (HNC.out _ (List.getElem_mem hlt))
      have HSN : Hid (insL [2, 3] (kids.take (k + 1)) = insL [2, 3] (kids.take k) ++ insK [2, 3] kids[k] ∧ wrgs (kids.take (k + 1)) = (wrgs (kids.take k) || wrgL kids[k])) := Lib.hid ⟨by rw [Asc.snoc_take kids k hlt, insL_snoc], by rw [Asc.snoc_take kids k hlt, wrgs_snoc]⟩
      obtain ⟨t2, ht2⟩ : ∃ t2, kids[k] = t2 := ⟨_, rfl⟩
      rw [ht2] at HKN HPRE HIK HSN
      have hlw : blk < wr.heap.size := Nat.lt_of_lt_of_le hbl HSk.out.bl.size
      clear ht2
      go_wp2_with fail
      have HSb := Lib.hid (HSk.out.on (al_below wr (.cells #[.int .i64 op2, .slice ra2 rn2 rc2, .string ⟨nm2.toArray⟩, .slice a2 n2 cp2, .int .i64 mn2, .int .i64 mx2] 25)))
      have HSi := Lib.hid (HSb.out.on (al_below (wr.alloc (.cells #[.int .i64 op2, .slice ra2 rn2 rc2, .string ⟨nm2.toArray⟩, .slice a2 n2 cp2, .int .i64 mn2, .int .i64 mx2] 25)) (.cells #[.int .i64 2, .int .i64 3] 3)))
      refine (inside_at t2 HIK.out [2, 3] 2 rfl _ w0 _ g (wr.heap.size + 1) _ _ HKN.out HSi.out.bl HSi.out.hg HSi.out.wk (by have := HPRE.out; have := HLEN.out; simp only [List.length_append]; omega) (by decide) (fun j hj => ?_) (by simp)).mono ?_
      · match j, hj with
        | 0, _ => simp [go_sem]
        | 1, _ => simp [go_sem]
        | j + 2, hj => exact absurd hj (by simp only [List.length_cons, List.length_nil]; omega)
      rintro e w9 ⟨rfl, hk9, hf9⟩
      have HS9 := Lib.hid (HSi.out.go hk9 hf9)
      clear hk9 hf9 HSi
      go_wp2_with fail
      exact ⟨⟨k + 1, by go_num, by omega, Lib.hid (by rw [HSN.out.1, HSN.out.2, ← List.append_assoc, ← Bool.or_assoc]; exact HS9.out)⟩, by simp [intOf]; omega⟩
    · have z1 : decide ((k : Int) < (kids.length : Int)) = false := decide_eq_false (by omega)
      have y1 : decide (k < kids.length) = false := decide_eq_false hlt
      have hk2 : kids.take k = kids := List.take_of_length_le (by omega)
      have HSF : Hid (WK g (bs ++ insL [2, 3] kids) (bw || wrgs kids) wr ∧ WF g w wr) := Lib.hid (by have := HSk.out; rw [hk2] at this; exact ⟨this.wk, this.wf⟩)
      clear hk2
      go_wp2_with fail
      go_end0
      exact ⟨rfl, by rw [HN.out.1, HN.out.2]; exact HSF.out.1, HSF.out.2⟩
set_option maxHeartbeats 8000000 in
set_option maxRecDepth 100000 in
theorem nodz_cho (rs : List (UInt8 × UInt8)) (nm : List UInt8) (kids : List NT) (mn mx : Int) (hn : ∀ k ∈ kids, NdC k) (v : Value) (w0 w : World) (g : Nat) (bs : List UInt8) (bw : Bool) (h : NAt w0 (.node 3 rs nm kids mn mx) v) (hB : Below w0.heap.size w0 w) (hg : w0.heap.size ≤ g) (hk : WK g bs bw w) (hlen : bs.length + (nodL (.node 3 rs nm kids mn mx)).length ≤ 900000) :
    Calls Tryz.prog 22 #[.pointer (some ⟨g, 0, none⟩), v] w (WdP (.node 3 rs nm kids mn mx) g bs bw w) := by
  have HWB := Lib.hid fun (b : List UInt8) (r : Bool) (c : UInt8) (hb : b.length ≤ 10000000) W (hW : WK g b r W) => wbyte_any g b r c W hW hb
  have HNC := Lib.hid hn
  have HN : Hid (nodL (.node 3 rs nm kids mn mx) = altS kids ∧ wrgL (.node 3 rs nm kids mn mx) = wrgs kids) := Lib.hid ⟨by rw [nodL]; rfl, by rw [wrgL]; rfl⟩
  have HLEN := Lib.hid (show bs.length + (altS kids).length ≤ 900000 by rw [← HN.out.1]; exact hlen)
  obtain ⟨op0, rs0, nm0, kids0, mn0, mx0, ra, rc, a, cp, ht, rfl, hrg, ⟨hkl, hnl⟩, hkids⟩ := h.open
  injection ht with e1 e2 e3 e4 e5 e6
  subst e1 e2 e3 e4 e5 e6
  have HS := Lib.hid (WS_.start hk hB hg 3 ra rs.length rc nm a kids.length cp mn mx)
  obtain ⟨q, hq⟩ : ∃ q, w.heap.size = q := ⟨_, rfl⟩
  obtain ⟨b0, b1, b2, b3, b4, b5⟩ := HS.out.bx.cells
  have HKD := Lib.hid hkids
  clear hq h hrg hkids hk hB hn hlen
  go_enter Tryz.func22, Tryz.ntmps22
  go_wp2_with fail
  clear b0 b1 b2 b3 b4 b5
  go_loopw [73] (fun i wr => ∃ k : Nat, i = .int .i64 k ∧ k ≤ kids.length ∧ Hid (WS_ g w0 w (bs ++ altS (kids.take k)) (bw || wrgs (kids.take k)) 3 ra rs.length rc nm a kids.length cp mn mx wr)) (fun i _ => kids.length - (intOf i).toNat)
  case atStart => exact ⟨0, rfl, by omega, Lib.hid (by rw [List.take_zero, altS_nil, wrgs_nil, List.append_nil, Bool.or_false]; exact HS.out)⟩
  case round =>
    obtain ⟨k, rfl, hkl2, HSk⟩ := hrel
    by_cases hlt : k < kids.length
    · have i1 : (k : Int) < (kids.length : Int) := by omega
      have i2 : (0 : Int) ≤ (k : Int) := by omega
      have hw1 : IntKind.i64.wrap ((k : Int) + 1) = (k : Int) + 1 := IntWalk.i64_in _ (by omega)
      obtain ⟨blk, off, op2, ra2, rn2, rc2, nm2, a2, n2, cp2, mn2, mx2, hae, hbl, k0, k1, k2, k3, k4, k5, hkn⟩ := HKD.out k hlt
      obtain rfl := hae
      have e0 := (HSk.out.bl.cell (p := ⟨blk, off + k * 6, none⟩) hbl).trans k0
      have e1 := (HSk.out.bl.cell (p := ⟨blk, off + k * 6 + 1, none⟩) hbl).trans k1
      have e2 := (HSk.out.bl.cell (p := ⟨blk, off + k * 6 + 2, none⟩) hbl).trans k2
      have e3 := (HSk.out.bl.cell (p := ⟨blk, off + k * 6 + 3, none⟩) hbl).trans k3
      have e4 := (HSk.out.bl.cell (p := ⟨blk, off + k * 6 + 4, none⟩) hbl).trans k4
      have e5 := (HSk.out.bl.cell (p := ⟨blk, off + k * 6 + 5, none⟩) hbl).trans k5
      have HKN := Lib.hid hkn
      clear k0 k1 k2 k3 k4 k5 hkn
      have HPRE := Lib.hid (altS_pre kids k hlt)
      have HIK := Lib.hid (HNC.out _ (List.getElem_mem hlt))
      have HSN : Hid (altS (kids.take (k + 1)) = altS (kids.take k) ++ ((if k = 0 then [] else [124]) ++ insK [3] kids[k]) ∧ wrgs (kids.take (k + 1)) = (wrgs (kids.take k) || wrgL kids[k])) := Lib.hid ⟨altS_step kids k hlt, by rw [Asc.snoc_take kids k hlt, wrgs_snoc]⟩
      obtain ⟨t2, ht2⟩ : ∃ t2, kids[k] = t2 := ⟨_, rfl⟩
      rw [ht2] at HKN HPRE HIK HSN
      have hlw : blk < wr.heap.size := Nat.lt_of_lt_of_le hbl HSk.out.bl.size
      have hqb : wr.heap.size ≠ g := by have := HSk.out.wk.lt; omega
      clear ht2
      by_cases hk0 : k = 0
      · subst hk0
        simp only [Nat.zero_mul, Nat.add_zero] at e0 e1 e2 e3 e4 e5
        have z3 : decide ((0 : Int) < ((0 : Nat) : Int)) = false := by decide
        have HSb := Lib.hid (HSk.out.on (al_below wr (.cells #[.int .i64 op2, .slice ra2 rn2 rc2, .string ⟨nm2.toArray⟩, .slice a2 n2 cp2, .int .i64 mn2, .int .i64 mx2] 25)))
        go_wp2_with fail
        have HSi := Lib.hid (HSb.out.on (al_below (wr.alloc (.cells #[.int .i64 op2, .slice ra2 rn2 rc2, .string ⟨nm2.toArray⟩, .slice a2 n2 cp2, .int .i64 mn2, .int .i64 mx2] 25)) (.cells #[.int .i64 3] 3)))
        refine (inside_at t2 HIK.out [3] 1 rfl _ w0 _ g (wr.heap.size + 1) _ _ HKN.out HSi.out.bl HSi.out.hg HSi.out.wk (by have := HPRE.out; have := HLEN.out; simp only [List.length_append] at *; omega) (by decide) (fun j hj => ?_) (by simp)).mono ?_
        · match j, hj with
          | 0, _ => simp [go_sem]
          | j + 1, hj => exact absurd hj (by simp only [List.length_cons, List.length_nil]; omega)
        rintro e w9 ⟨rfl, hk9, hf9⟩
        have HS9 := Lib.hid (HSi.out.go hk9 hf9)
        clear hk9 hf9 HSi
        go_wp2_with fail
        exact ⟨⟨0 + 1, by go_num, by omega, Lib.hid (by rw [HSN.out.1, HSN.out.2, ← Bool.or_assoc]; have := HS9.out; simpa using this)⟩, by simp [intOf]; omega⟩
      · have z3 : decide ((0 : Int) < (k : Int)) = true := decide_eq_true (by omega)
        have y3 : decide (0 < k) = true := decide_eq_true (by omega)
        have HBX := Lib.hid (NBx.new wr op2 ra2 rn2 rc2 nm2 a2 n2 cp2 mn2 mx2)
        have HSb := Lib.hid (HSk.out.on (al_below wr (.cells #[.int .i64 op2, .slice ra2 rn2 rc2, .string ⟨nm2.toArray⟩, .slice a2 n2 cp2, .int .i64 mn2, .int .i64 mx2] 25)))
        obtain ⟨qb, hqe⟩ : ∃ qb, wr.heap.size = qb := ⟨_, rfl⟩
        have HQE := Lib.hid hqe
        rw [hqe] at HBX hqb
        clear hqe
        go_wp2_with fail
        refine (HWB.out _ _ 124 (by have := HPRE.out; have := HLEN.out; simp only [List.length_append]; omega) _ HSb.out.wk).mono ?_
        rintro e w6 ⟨rfl, hk6, hf6⟩
        have HS6 := Lib.hid (HSb.out.go hk6 hf6)
        have HBX6 := Lib.hid (HBX.out.wf hf6 hqb)
        clear hk6 hf6 HSb HBX e0 e1 e2 e3 e4 e5
        rw [HQE.out]
        obtain ⟨b0, b1, b2, b3, b4, b5⟩ := HBX6.out.cells
        go_wp2_with fail
        have HSi := Lib.hid (HS6.out.on (al_below (w6) (.cells #[.int .i64 3] 3)))
        refine (inside_at t2 HIK.out [3] 1 rfl _ w0 _ g w6.heap.size _ _ HKN.out HSi.out.bl HSi.out.hg HSi.out.wk (by have := HPRE.out; have := HLEN.out; rw [if_neg hk0] at *; simp only [List.length_append, List.length_cons, List.length_nil]; omega) (by decide) (fun j hj => ?_) (by simp)).mono ?_
        · match j, hj with
          | 0, _ => simp [go_sem]
          | j + 1, hj => exact absurd hj (by simp only [List.length_cons, List.length_nil]; omega)
        rintro e w9 ⟨rfl, hk9, hf9⟩
        have HS9 := Lib.hid (HSi.out.go hk9 hf9)
        clear hk9 hf9 HSi
        go_wp2_with fail
        exact ⟨⟨k + 1, by go_num, by omega, Lib.hid (by rw [HSN.out.1, HSN.out.2, if_neg hk0, ← Bool.or_assoc]; have := HS9.out; simpa using this)⟩, by simp [intOf]; omega⟩
    · have z1 : decide ((k : Int) < (kids.length : Int)) = false := decide_eq_false (by omega)
      have y1 : decide (k < kids.length) = false := decide_eq_false hlt
      have hk2 : kids.take k = kids := List.take_of_length_le (by omega)
      have HSF : Hid (WK g (bs ++ altS kids) (bw || wrgs kids) wr ∧ WF g w wr) := Lib.hid (by have := HSk.out; rw [hk2] at this; exact ⟨this.wk, this.wf⟩)
      clear hk2
      go_wp2_with fail
      go_end0
      exact ⟨rfl, by rw [HN.out.1, HN.out.2]; exact HSF.out.1, HSF.out.2⟩
set_option maxHeartbeats 8000000 in
set_option maxRecDepth 100000 in
theorem nodz_rep (rs : List (UInt8 × UInt8)) (nm : List UInt8) (kids : List NT) (mn mx : Int) (hone : kids.length = 1) (hn : ∀ k ∈ kids, NdC k) (hbd : 0 ≤ mn ∧ mn ≤ 40 ∧ (mx = -1 ∨ (mn ≤ mx ∧ mx ≤ 40))) (v : Value) (w0 w : World) (g : Nat) (bs : List UInt8) (bw : Bool) (h : NAt w0 (.node 4 rs nm kids mn mx) v) (hB : Below w0.heap.size w0 w) (hg : w0.heap.size ≤ g) (hk : WK g bs bw w) (hlen : bs.length + (nodL (.node 4 rs nm kids mn mx)).length ≤ 900000) :
    Calls Tryz.prog 22 #[.pointer (some ⟨g, 0, none⟩), v] w (WdP (.node 4 rs nm kids mn mx) g bs bw w) := by
  obtain ⟨t2, rfl⟩ : ∃ t2, kids = [t2] := by
    match kids, hone with
    | [t2], _ => exact ⟨t2, rfl⟩
  have HIK := Lib.hid (hn t2 (by simp))
  have HBD := Lib.hid fun (b : List UInt8) (r : Bool) (hb : b.length ≤ 1000000) W (hW : WK g b r W) => wbds_any g b r mn mx hbd.1 hbd.2.1 hbd.2.2 W hW hb
  have HN : Hid (nodL (.node 4 rs nm [t2] mn mx) = insK [2, 3, 4] t2 ++ bdsL mn mx ∧ wrgL (.node 4 rs nm [t2] mn mx) = wrgL t2) := Lib.hid ⟨by rw [nodL]; show insL [2, 3, 4] [t2] ++ bdsL mn mx = _; rw [insL_cons, insL_nil, List.append_nil], by rw [wrgL]; show wrgs [t2] = _; rw [wrgs_cons, wrgs_nil, Bool.or_false]⟩
  have HLEN := Lib.hid (show bs.length + ((insK [2, 3, 4] t2).length + (bdsL mn mx).length) ≤ 900000 by rw [← List.length_append, ← HN.out.1]; exact hlen)
  obtain ⟨op0, rs0, nm0, kids0, mn0, mx0, ra, rc, a, cp, ht, rfl, hrg, ⟨hkl, hnl⟩, hkids⟩ := h.open
  injection ht with e1 e2 e3 e4 e5 e6
  subst e1 e2 e3 e4 e5 e6
  have HS := Lib.hid (WS_.start hk hB hg 4 ra rs.length rc nm a 1 cp mn mx)
  obtain ⟨q, hq⟩ : ∃ q, w.heap.size = q := ⟨_, rfl⟩
  obtain ⟨b0, b1, b2, b3, b4, b5⟩ := HS.out.bx.cells
  have HKD := Lib.hid hkids
  clear hq h hrg hkids hk hB hn hlen hone hbd
  obtain ⟨blk, off, op2, ra2, rn2, rc2, nm2, a2, n2, cp2, mn2, mx2, hae, hbl, k0, k1, k2, k3, k4, k5, hkn⟩ := HKD.out 0 (by simp)
  obtain rfl := hae
  have e0 := (HS.out.bl.cell (p := ⟨blk, off + 0 * 6, none⟩) hbl).trans k0
  have e1 := (HS.out.bl.cell (p := ⟨blk, off + 0 * 6 + 1, none⟩) hbl).trans k1
  have e2 := (HS.out.bl.cell (p := ⟨blk, off + 0 * 6 + 2, none⟩) hbl).trans k2
  have e3 := (HS.out.bl.cell (p := ⟨blk, off + 0 * 6 + 3, none⟩) hbl).trans k3
  have e4 := (HS.out.bl.cell (p := ⟨blk, off + 0 * 6 + 4, none⟩) hbl).trans k4
  have e5 := (HS.out.bl.cell (p := ⟨blk, off + 0 * 6 + 5, none⟩) hbl).trans k5
  have HKN := Lib.hid hkn
  clear k0 k1 k2 k3 k4 k5 hkn
  have hlw : blk < (w.alloc (.cells #[.int .i64 4, .slice ra rs.length rc, .string ⟨nm.toArray⟩, .slice (some ⟨blk, off, none⟩) 1 cp, .int .i64 mn, .int .i64 mx] 25)).heap.size := Nat.lt_of_lt_of_le hbl HS.out.bl.size
  simp only [Nat.zero_mul, Nat.add_zero] at e0 e1 e2 e3 e4 e5
  go_enter Tryz.func22, Tryz.ntmps22
  go_wp2_with fail

  have HSi := Lib.hid (HS.out.on (al_below (w.alloc (.cells #[.int .i64 4, .slice ra rs.length rc, .string ⟨nm.toArray⟩, .slice (some ⟨blk, off, none⟩) 1 cp, .int .i64 mn, .int .i64 mx] 25)) (.cells #[.int .i64 2, .int .i64 3, .int .i64 4] 3)))
  refine (inside_at t2 HIK.out [2, 3, 4] 3 rfl _ w0 _ g (w.heap.size + 1) _ _ HKN.out HSi.out.bl HSi.out.hg HSi.out.wk (by have := HLEN.out; omega) (by decide) (fun j hj => ?_) (by simp)).mono ?_
  · match j, hj with
    | 0, _ => simp [go_sem]
    | 1, _ => simp [go_sem]
    | 2, _ => simp [go_sem]
    | j + 3, hj => exact absurd hj (by simp only [List.length_cons, List.length_nil]; omega)
  rintro e w9 ⟨rfl, hk9, hf9⟩
  have HS9 := Lib.hid (HSi.out.go hk9 hf9)
  clear hk9 hf9 HSi
  clear b0 b1 b2 b3 b4 b5 e0 e1 e2 e3 e4 e5
  obtain ⟨b0, b1, b2, b3, b4, b5⟩ := HS9.out.bx.cells
  go_wp2_with fail
  refine (HBD.out _ _ (by have := HLEN.out; simp only [List.length_append]; omega) _ HS9.out.wk).mono ?_
  rintro e w10 ⟨rfl, hk9, hf9⟩
  have HK10 := Lib.hid hk9
  have HF10 := Lib.hid (HS9.out.wf.trans hf9)
  clear hk9 hf9
  go_wp2_with fail
  go_end0
  exact ⟨rfl, by rw [HN.out.1, HN.out.2, ← List.append_assoc]; exact HK10.out, HF10.out⟩
set_option maxHeartbeats 8000000 in
set_option maxRecDepth 100000 in
theorem nodz_cap (rs : List (UInt8 × UInt8)) (nm : List UInt8) (kids : List NT) (mn mx : Int) (hone : kids.length = 1) (hn : ∀ k ∈ kids, NdC k) (hnm : nm.length ≤ 32) (v : Value) (w0 w : World) (g : Nat) (bs : List UInt8) (bw : Bool) (h : NAt w0 (.node 5 rs nm kids mn mx) v) (hB : Below w0.heap.size w0 w) (hg : w0.heap.size ≤ g) (hk : WK g bs bw w) (hlen : bs.length + (nodL (.node 5 rs nm kids mn mx)).length ≤ 900000) :
    Calls Tryz.prog 22 #[.pointer (some ⟨g, 0, none⟩), v] w (WdP (.node 5 rs nm kids mn mx) g bs bw w) := by
  have HWS := Lib.hid fun (b : List UInt8) (r : Bool) (l : List UInt8) (hb : b.length ≤ 10000000) (hl : l.length ≤ 10000000) W (hW : WK g b r W) => wstr_any g b r l W hW hb hl
  have HWB := Lib.hid fun (b : List UInt8) (r : Bool) (c : UInt8) (hb : b.length ≤ 10000000) W (hW : WK g b r W) => wbyte_any g b r c W hW hb
  obtain ⟨t2, rfl⟩ : ∃ t2, kids = [t2] := by
    match kids, hone with
    | [t2], _ => exact ⟨t2, rfl⟩
  have HIK := Lib.hid (hn t2 (by simp))
  have HN : Hid (nodL (.node 5 rs nm [t2] mn mx) = 40 :: (nm ++ (58 :: (nodL t2 ++ [41]))) ∧ wrgL (.node 5 rs nm [t2] mn mx) = wrgL t2) := Lib.hid ⟨by rw [nodL]; show 40 :: (nm ++ (58 :: (insL [] [t2] ++ [41]))) = _; rw [insL_cons, insL_nil, List.append_nil]; rfl, by rw [wrgL]; show wrgs [t2] = _; rw [wrgs_cons, wrgs_nil, Bool.or_false]⟩
  have HLEN := Lib.hid (show bs.length + (nm.length + (nodL t2).length + 3) ≤ 900000 by have h9 := hlen; rw [HN.out.1] at h9; simp only [List.length_cons, List.length_append, List.length_nil] at h9; omega)
  have n1 : ¬ 9223372036854775807 < 1 + nm.length := by omega
  have n2 : ¬ 9223372036854775807 < 1 + nm.length + 1 := by omega
  obtain ⟨op0, rs0, nm0, kids0, mn0, mx0, ra, rc, a, cp, ht, rfl, hrg, ⟨hkl, hnl⟩, hkids⟩ := h.open
  injection ht with e1 e2 e3 e4 e5 e6
  subst e1 e2 e3 e4 e5 e6
  have HS := Lib.hid (WS_.start hk hB hg 5 ra rs.length rc nm a 1 cp mn mx)
  obtain ⟨q, hq⟩ : ∃ q, w.heap.size = q := ⟨_, rfl⟩
  obtain ⟨b0, b1, b2, b3, b4, b5⟩ := HS.out.bx.cells
  have HKD := Lib.hid hkids
  clear hq h hrg hkids hk hB hn hlen hone
  obtain ⟨blk, off, op2, ra2, rn2, rc2, nm2, a2, n2, cp2, mn2, mx2, hae, hbl, k0, k1, k2, k3, k4, k5, hkn⟩ := HKD.out 0 (by simp)
  obtain rfl := hae
  have e0 := (HS.out.bl.cell (p := ⟨blk, off + 0 * 6, none⟩) hbl).trans k0
  have e1 := (HS.out.bl.cell (p := ⟨blk, off + 0 * 6 + 1, none⟩) hbl).trans k1
  have e2 := (HS.out.bl.cell (p := ⟨blk, off + 0 * 6 + 2, none⟩) hbl).trans k2
  have e3 := (HS.out.bl.cell (p := ⟨blk, off + 0 * 6 + 3, none⟩) hbl).trans k3
  have e4 := (HS.out.bl.cell (p := ⟨blk, off + 0 * 6 + 4, none⟩) hbl).trans k4
  have e5 := (HS.out.bl.cell (p := ⟨blk, off + 0 * 6 + 5, none⟩) hbl).trans k5
  have HKN := Lib.hid hkn
  simp only [Nat.zero_mul, Nat.add_zero] at k0 k1 k2 k3 k4 k5
  have HQ6 := Lib.hid (⟨k0, k1, k2, k3, k4, k5⟩ : _ ∧ _ ∧ _ ∧ _ ∧ _ ∧ _)
  clear k0 k1 k2 k3 k4 k5 hkn
  go_enter Tryz.func22, Tryz.ntmps22
  go_wp2_with fail
  obtain ⟨W1, hW1⟩ : ∃ W1, w.alloc (.cells #[.int .i64 5, .slice ra rs.length rc, .string ⟨nm.toArray⟩, .slice (some ⟨blk, off, none⟩) 1 cp, .int .i64 mn, .int .i64 mx] 25) = W1 := ⟨_, rfl⟩
  rw [hW1] at HS b0 b1 b2 b3 b4 b5 ⊢
  clear hW1 e0 e1 e2 e3 e4 e5
  refine wp_region_still_tail 7 (by rfl) (by kernel_rfl) ?_
  change wpStill _ _ W1.drew _ _ _
  simp only [List.take_succ_cons, List.take_zero, List.drop_succ_cons, List.drop_zero]
  still_step
  still_step
  still_step
  still_step
  still_step
  still_step
  still_step
  refine wpStill_nil ?_
  change wpList _ _ _ _ _ W1.drew
  have HS1 := Lib.hid HS.out.drew
  clear HS
  go_wp2_with fail
  rw [ba_app [40] nm, ba_app ([40] ++ nm) [58]]
  refine (HWS.out bs bw ([40] ++ nm ++ [58]) (by have := HLEN.out; omega) (by simp; omega) _ HS1.out.wk).mono ?_
  rintro e w2 ⟨rfl, hk9, hf9⟩
  have HS2 := Lib.hid (HS1.out.go hk9 hf9)
  clear hk9 hf9 b0 b1 b2 b3 b4 b5
  obtain ⟨b0, b1, b2, b3, b4, b5⟩ := HS2.out.bx.cells
  obtain ⟨q0, q1, q2, q3, q4, q5⟩ := HQ6.out
  have e0 := (HS2.out.bl.cell (p := ⟨blk, off, none⟩) hbl).trans q0
  have e1 := (HS2.out.bl.cell (p := ⟨blk, off + 1, none⟩) hbl).trans q1
  have e2 := (HS2.out.bl.cell (p := ⟨blk, off + 2, none⟩) hbl).trans q2
  have e3 := (HS2.out.bl.cell (p := ⟨blk, off + 3, none⟩) hbl).trans q3
  have e4 := (HS2.out.bl.cell (p := ⟨blk, off + 4, none⟩) hbl).trans q4
  have e5 := (HS2.out.bl.cell (p := ⟨blk, off + 5, none⟩) hbl).trans q5
  have hlw : blk < w2.heap.size := Nat.lt_of_lt_of_le hbl HS2.out.bl.size
  clear q0 q1 q2 q3 q4 q5
  go_wp2_with fail
  refine (HIK.out _ w0 w2 g _ _ HKN.out HS2.out.bl HS2.out.hg HS2.out.wk (by have := HLEN.out; simp; omega)).mono ?_
  rintro e w3 ⟨rfl, hk9, hf9⟩
  have HS3 := Lib.hid (HS2.out.go hk9 hf9)
  clear hk9 hf9 b0 b1 b2 b3 b4 b5 e0 e1 e2 e3 e4 e5
  go_wp2_with fail
  refine (HWB.out _ _ 41 (by have := HLEN.out; simp; omega) _ HS3.out.wk).mono ?_
  rintro e w4 ⟨rfl, hk9, hf9⟩
  have HK4 := Lib.hid hk9
  have HF4 := Lib.hid (HS3.out.wf.trans hf9)
  clear hk9 hf9
  go_wp2_with fail
  go_end0
  exact ⟨rfl, by rw [HN.out.1, HN.out.2]; have := HK4.out; simpa using this, HF4.out⟩
end Go.Proofs.YtphbkompnddflaaGreatDoor
/-
  Format, for every node.
-/
namespace Go.Proofs.YtphbkompnddflaaGreatDoor
open Go.RowKit

theorem node_all (N : Nat) : ∀ t : NT, SizeOf.sizeOf t < N → Good t → NdC t := by
  induction N with
  | zero => intro t h; omega
  | succ N ih =>
    intro t hN hG
    obtain ⟨op, rs, nm, kids, mn, mx⟩ := t
    rw [Good] at hG
    obtain ⟨hs, hks⟩ := hG
    have hk : ∀ k ∈ kids, NdC k := fun k hk => ih k (by have := List.sizeOf_lt_of_mem hk; simp at hN; omega) (goods_at hks k hk)
    obtain ⟨h1, h2, h3⟩ := shE_zero hs
    intro v w0 w g bs wr hv hB hg hw hl
    rcases shp_cases h1 with ⟨rfl, h⟩ | ⟨rfl, h⟩ | ⟨rfl, h⟩ | ⟨rfl, h, hr⟩ | ⟨rfl, h⟩ | ⟨rfl, h⟩ | ⟨rfl, h⟩ | ⟨rfl, h⟩
    · exact nodz_empty rs nm kids mn mx (List.length_eq_zero_iff.1 h) v w0 w g bs wr hv hB hg hw hl
    · exact nodz_beg rs nm kids mn mx (List.length_eq_zero_iff.1 h) v w0 w g bs wr hv hB hg hw hl
    · exact nodz_end rs nm kids mn mx (List.length_eq_zero_iff.1 h) v w0 w g bs wr hv hB hg hw hl
    · exact nodz_class rs nm kids mn mx (srt_len hr) v w0 w g bs wr hv hB hg hw hl
    · exact nodz_cat rs nm kids mn mx hk v w0 w g bs wr hv hB hg hw hl
    · exact nodz_cho rs nm kids mn mx hk v w0 w g bs wr hv hB hg hw hl
    · exact nodz_rep rs nm kids mn mx h hk (badR_no (h3 rfl)) v w0 w g bs wr hv hB hg hw hl
    · exact nodz_cap rs nm kids mn mx h hk (nm_len (h2 rfl)) v w0 w g bs wr hv hB hg hw hl
theorem insL_sum (ops : List Int) (ks : List NT) (h : ∀ k ∈ ks, 1 ≤ (nodL k).length ∧ (nodL k).length + 3 ≤ 1600 * cntN k) : (insL ops ks).length ≤ 1600 * cnts ks ∧ ks.length ≤ (insL ops ks).length := by
  induction ks with
  | nil => rw [insL_nil]; simp
  | cons x ks ih =>
    have h1 := h x (by simp)
    have h2 := ih (fun k hk => h k (List.mem_cons_of_mem _ hk))
    have h3 := insK_len ops x
    have h4 := nodL_insK ops x
    rw [insL_cons, cnts]
    simp only [List.length_append, List.length_cons]
    omega
theorem altT_sum (ks : List NT) (h : ∀ k ∈ ks, 1 ≤ (nodL k).length ∧ (nodL k).length + 3 ≤ 1600 * cntN k) : (altT ks).length ≤ 1600 * cnts ks := by
  induction ks with
  | nil => rw [altT_nil]; simp
  | cons x ks ih =>
    have h1 := h x (by simp)
    have h2 := ih (fun k hk => h k (List.mem_cons_of_mem _ hk))
    have h3 := insK_len [3] x
    rw [altT_cons, cnts]
    simp only [List.length_append, List.length_cons]
    omega
theorem altS_sum (ks : List NT) (h0 : 0 < ks.length) (h : ∀ k ∈ ks, 1 ≤ (nodL k).length ∧ (nodL k).length + 3 ≤ 1600 * cntN k) : (altS ks).length ≤ 1600 * cnts ks ∧ 1 ≤ (altS ks).length := by
  cases ks with
  | nil => simp at h0
  | cons x ks =>
    have h1 := h x (by simp)
    have h2 := altT_sum ks (fun k hk => h k (List.mem_cons_of_mem _ hk))
    have h3 := insK_len [3] x
    have h4 := nodL_insK [3] x
    rw [altS_cons, cnts]
    simp only [List.length_append]
    omega
theorem nod_len (N : Nat) : ∀ t : NT, SizeOf.sizeOf t < N → Good t → 1 ≤ (nodL t).length ∧ (nodL t).length + 3 ≤ 1600 * cntN t := by
  induction N with
  | zero => intro t h; omega
  | succ N ih =>
    intro t hN hG
    obtain ⟨op, rs, nm, kids, mn, mx⟩ := t
    rw [Good] at hG
    obtain ⟨hs, hks⟩ := hG
    have hk : ∀ k ∈ kids, 1 ≤ (nodL k).length ∧ (nodL k).length + 3 ≤ 1600 * cntN k := fun k hk => ih k (by have := List.sizeOf_lt_of_mem hk; simp at hN; omega) (goods_at hks k hk)
    obtain ⟨h1, h2, h3⟩ := shE_zero hs
    rw [cntN]
    rcases shp_cases h1 with ⟨rfl, h⟩ | ⟨rfl, h⟩ | ⟨rfl, h⟩ | ⟨rfl, h, hr⟩ | ⟨rfl, h⟩ | ⟨rfl, h⟩ | ⟨rfl, h⟩ | ⟨rfl, h⟩
    · have e : nodL (.node 0 rs nm kids mn mx) = [40, 41] := by rw [nodL]; rfl
      rw [e]
      simp
      omega
    · have e : nodL (.node 6 rs nm kids mn mx) = [94] := by rw [nodL]; rfl
      rw [e]
      simp
      omega
    · have e : nodL (.node 7 rs nm kids mn mx) = [36] := by rw [nodL]; rfl
      rw [e]
      simp
      omega
    · have e : nodL (.node 1 rs nm kids mn mx) = clsS rs := by rw [nodL]; rfl
      have := clsS_len (srt_len hr)
      have h9 : 1 ≤ (clsS rs).length := by unfold clsS; split <;> simp
      rw [e]
      omega
    · have e : nodL (.node 2 rs nm kids mn mx) = insL [2, 3] kids := by rw [nodL]; rfl
      have := insL_sum [2, 3] kids hk
      rw [e]
      omega
    · have e : nodL (.node 3 rs nm kids mn mx) = altS kids := by rw [nodL]; rfl
      have := altS_sum kids (by omega) hk
      rw [e]
      omega
    · have e : nodL (.node 4 rs nm kids mn mx) = insL [2, 3, 4] kids ++ bdsL mn mx := by rw [nodL]; rfl
      have := insL_sum [2, 3, 4] kids hk
      have hb := badR_no (h3 rfl)
      have := bdsL_len mn mx hb.1 hb.2.1 hb.2.2
      rw [e, List.length_append]
      omega
    · have e : nodL (.node 5 rs nm kids mn mx) = 40 :: (nm ++ (58 :: (insL [] kids ++ [41]))) := by rw [nodL]; rfl
      have := insL_sum [] kids hk
      have := nm_len (h2 rfl)
      rw [e]
      simp only [List.length_append, List.length_cons, List.length_nil]
      omega
/-- What Format computes. -/
noncomputable def fmtM (t : NT) : List UInt8 × Nat := if ckE t ≠ 0 then ([], ckE t) else if wrgL t then ([], 1) else if 400 < (nodL t).length then ([], 3) else (nodL t, 0)
set_option maxHeartbeats 4000000 in
set_option maxRecDepth 1000000 in
theorem format_any (t : NT) (v : Value) (w : World) (h : NAt w t v) (hk : Kinds w) :
    Calls Tryz.prog 10 #[v] w fun e w' => e = .returned (.tuple #[.string ⟨(fmtM t).1.toArray⟩, .int .i64 ((fmtM t).2 : Int)]) ∧ Below w.heap.size w w' := by
  have HNA := Lib.hid h
  have HCK := Lib.hid fun W (hW : Kinds W) u (hu : NAt W t u) => check_any t u W hu hW
  have HFM := Lib.hid (show fmtM t = if ckE t ≠ 0 then ([], ckE t) else if wrgL t then ([], 1) else if 400 < (nodL t).length then ([], 3) else (nodL t, 0) from rfl)
  have HGD := Lib.hid (fun hz => ckE_good (t := t) hz)
  obtain ⟨op, rs, nm, kids, mn, mx, ra, rc, a, cp, ht, rfl, _⟩ := h.open
  obtain ⟨C, hC⟩ : ∃ C, ckE t = C := ⟨_, rfl⟩
  rw [hC] at HCK HFM HGD
  have HBX := Lib.hid (NBx.new w op ra rs.length rc nm a kids.length cp mn mx)
  have hal := al_below w (.cells #[.int .i64 op, .slice ra rs.length rc, .string ⟨nm.toArray⟩, .slice a kids.length cp, .int .i64 mn, .int .i64 mx] 25)
  have HAL := Lib.hid hal
  have HK0 := Lib.hid (hk.below hal)
  obtain ⟨b0, b1, b2, b3, b4, b5⟩ := HBX.out.cells
  clear h hk hal ht hC
  go_enter Tryz.func10, Tryz.ntmps10
  go_wp2_with fail
  refine (HCK.out _ HK0.out _ (NAt.later HAL.out _ _ HNA.out)).mono ?_
  rintro e w1 ⟨rfl, hb⟩
  have HB1 := Lib.hid (HAL.out.trans (hb.mono HAL.out.size))
  have HBX1 := Lib.hid (HBX.out.on hb)
  clear hb HBX HAL b0 b1 b2 b3 b4 b5 HK0
  by_cases hC0 : C = 0
  · subst hC0
    obtain ⟨hgood, hcnt⟩ := HGD.out rfl
    have hnl := nod_len _ t (Nat.lt_succ_self _) hgood
    have HND := Lib.hid (node_all _ t (Nat.lt_succ_self _) hgood)
    have HLEN := Lib.hid (show (nodL t).length ≤ 640000 by omega)
    have HNE := Lib.hid (show nodL t ≠ [] from fun e => by rw [e] at hnl; simp at hnl)
    have HF1 : Hid (fmtM t = if wrgL t then ([], 1) else if 400 < (nodL t).length then ([], 3) else (nodL t, 0)) := Lib.hid (by rw [HFM.out]; rfl)
    obtain ⟨b0, b1, b2, b3, b4, b5⟩ := HBX1.out.cells
    have hlt := HBX1.out.lt
    clear hgood hcnt hnl
    have HB2 := Lib.hid (HB1.out.trans ((al_below w1 (.cells #[.pointer none, .slice none 0 0, .bool false] 62)).mono HB1.out.size))
    have HW2 : Hid (WK w1.heap.size [] false (w1.alloc (.cells #[.pointer none, .slice none 0 0, .bool false] 62))) := Lib.hid ⟨none, .slice none 0 0, heap_alloc_new w1 _, .inl rfl, World.ownsRow_nil _ _ _ _⟩
    obtain ⟨g, hg⟩ : ∃ g, w1.heap.size = g := ⟨_, rfl⟩
    have HG := Lib.hid (show w.heap.size ≤ g by rw [← hg]; exact HB1.out.size)
    rw [hg] at HW2
    have HGE := Lib.hid hg
    clear hg
    go_wp2_with fail
    rw [HGE.out]
    refine (HND.out _ w _ g [] false HNA.out HB2.out HG.out HW2.out (by have := HLEN.out; simp; omega)).mono ?_
    rintro e w3 ⟨rfl, hk3, hf3⟩
    rw [List.nil_append, Bool.false_or] at hk3
    have HK3 := Lib.hid hk3
    have HB3 := Lib.hid (HB2.out.trans (hf3.bl.mono HG.out))
    clear hk3 hf3 b0 b1 b2 b3 b4 b5
    obtain ⟨c2, f2⟩ := HK3.out.cell2
    obtain ⟨L, hL⟩ : ∃ L, nodL t = L := ⟨_, rfl⟩
    rw [hL] at HK3 HF1 HLEN HNE
    clear hL
    cases hB : wrgL t with
    | true =>
      rw [hB] at HF1 c2
      have HF2 : Hid (fmtM t = ([], 1)) := Lib.hid HF1.out
      clear hB
      go_wp2_with fail
      go_ret2
      exact ⟨by rw [HF2.out]; rfl, HB3.out⟩
    | false =>
      rw [hB] at HF1 c2
      have HLN := Lib.hid (wlen_any g L _ w3 HK3.out)
      have HST := Lib.hid (wstring_any g L _ w3 HK3.out HNE.out)
      clear hB
      go_wp2_with fail
      refine HLN.out.mono ?_
      rintro e w4 ⟨rfl, rfl⟩
      by_cases hlen : 400 < L.length
      · have HF2 : Hid (fmtM t = ([], 3)) := Lib.hid (HF1.out.trans (if_pos hlen))
        have z1 : decide ((400 : Int) < (L.length : Int)) = true := decide_eq_true (by omega)
        have y1 : decide (400 < L.length) = true := decide_eq_true hlen
        go_wp2_with fail
        go_ret2
        exact ⟨by rw [HF2.out]; rfl, HB3.out⟩
      · have HF2 : Hid (fmtM t = (L, 0)) := Lib.hid (HF1.out.trans (if_neg hlen))
        have z1 : decide ((400 : Int) < (L.length : Int)) = false := decide_eq_false (by omega)
        have y1 : decide (400 < L.length) = false := decide_eq_false hlen
        go_wp2_with fail
        refine HST.out.mono ?_
        rintro e w5 ⟨rfl, hb5⟩
        have HB5 := Lib.hid (HB3.out.trans (hb5.mono HG.out))
        clear hb5
        go_wp2_with fail
        go_ret2
        exact ⟨by rw [HF2.out]; rfl, HB5.out⟩
  · have z2 : ((C : Int) == 0) = false := by rw [beq_eq_false_iff_ne]; omega
    have z3 : ((C : Int) != 0) = true := by simp; omega
    have HF1 : Hid (fmtM t = ([], C)) := Lib.hid (by rw [HFM.out, if_pos hC0])
    clear hC0
    go_wp2_with fail
    go_ret2
    exact ⟨by rw [HF1.out]; rfl, HB1.out⟩
end Go.Proofs.YtphbkompnddflaaGreatDoor

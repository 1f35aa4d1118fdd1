/-
  ParseQuotes' walk.
-/
import Derived.Test.YtfdbjgdafolbmaaDoorParJ
namespace Go.Proofs.YtfdbjgdafolbmaaDoor
open Go.RowKit

namespace Asc
theorem dbl_snoc (x : List UInt8) (c : UInt8) : dbl (x ++ [c]) = dbl x ++ (if c = 34 then [34, 34] else [c]) := by
  induction x with
  | nil => simp only [List.nil_append, dbl]
  | cons d x ih => rw [List.cons_append, dbl, dbl, ih]; split <;> simp
theorem special_snoc (sep : UInt8) (x : List UInt8) (c : UInt8) : special sep (x ++ [c]) = (special sep x || (decide (c = 34) || decide (c = sep))) := by
  unfold special; simp
theorem dbl_len (x : List UInt8) : (dbl x).length ≤ 2 * x.length := by
  induction x with
  | nil => simp [dbl]
  | cons c x ih => unfold dbl; split <;> simp <;> omega
theorem item_len (sep : UInt8) (pl : Bool) (x : List UInt8) (h : x.length ≤ 60) : (item sep pl x).length ≤ 122 := by
  have := dbl_len x
  unfold item; split <;> simp <;> omega
theorem joinQ_len (sep : UInt8) (pl : Bool) (l : List (List UInt8)) (h : ∀ x ∈ l, x.length ≤ 60) : (joinQ sep pl l).length ≤ 123 * l.length := by
  induction l with
  | nil => simp [joinQ]
  | cons x l ih =>
    have hx := item_len sep pl x (h x (by simp))
    cases l with
    | nil => simp [joinQ]; omega
    | cons y r =>
      have := ih (fun z hz => h z (List.mem_cons_of_mem _ hz))
      rw [joinQ]
      simp at this ⊢
      omega
end Asc

theorem conv1_u8 (W : World) (c : UInt8) : (convert 22 9 (.slice (some ⟨W.heap.size, 0, none⟩) 1 1)).run Tryd.prog (W.alloc (.cells #[.int .u8 (c.toNat : Int)] 5)) = .ok (.string ⟨#[c]⟩) (W.alloc (.cells #[.int .u8 (c.toNat : Int)] 5)) := by
  have h := run_convert_bytes_back (P := Tryd.prog) (W.alloc (.cells #[.int .u8 (c.toNat : Int)] 5)) 22 9 5 ⟨W.heap.size, 0, none⟩ 1 [c] Tryd.underlying22 Tryd.underlying5 Tryd.underlying9 (fun j hj => by
    obtain rfl : j = 0 := by simp at hj; exact hj
    simp [Addr.add])
  exact h

theorem ba_nil (a : ByteArray) : ByteArray.mk #[] ++ a = a := by
  apply ByteArray.ext
  simp [ByteArray.data_append]
/-- The slice of strings that came in. -/
def SSI (w : World) (v : Value) (fs : List (List UInt8)) : Prop :=
  ∃ a cap, v = .slice a fs.length cap ∧ (0 < fs.length → ∃ g off, a = some ⟨g, off, none⟩ ∧ g < w.heap.size ∧ ∀ i (hi : i < fs.length), w.cell? ⟨g, off + i, none⟩ = some (.string ⟨(fs[i]).toArray⟩))

theorem SSI.below {w w' : World} {v : Value} {fs : List (List UInt8)} (h : SSI w v fs) (hb : Below w.heap.size w w') : SSI w' v fs := by
  obtain ⟨a, cap, rfl, h⟩ := h
  refine ⟨a, cap, rfl, fun h0 => ?_⟩
  obtain ⟨g, off, rfl, hl, hc⟩ := h h0
  exact ⟨g, off, rfl, Nat.lt_of_lt_of_le hl hb.size, fun i hi => (hb.cell (p := ⟨g, off + i, none⟩) hl).trans (hc i hi)⟩
/-- Two lists of strings that are the same. -/
theorem same_any (va vb : Value) (fs : List (List UInt8)) (w : World) (ha : SSI w va fs) (hb : SS w vb fs) (hl : fs.length ≤ 1000000) :
    Calls Tryd.prog 19 #[va, vb] w fun e w' => e = .returned (.bool true) ∧ Below w.heap.size w w' := by
  obtain ⟨a, ca, rfl, ha⟩ := ha
  obtain ⟨b, cb, rfl, hb⟩ := hb
  have HA := Lib.hid ha
  have HB := Lib.hid hb
  clear ha hb
  go_enter Tryd.func19, Tryd.ntmps19
  go_wp2_with fail
  go_loopw [5] (fun i wr => ∃ k q : Nat, k ≤ fs.length ∧ i = .int .i64 k ∧ wr = w.drewN q) (fun i _ => fs.length - (intOf i).toNat)
  case atStart => exact ⟨0, 0, by omega, rfl, rfl⟩
  case round =>
    obtain ⟨k, q, hk, rfl, rfl⟩ := hrel
    by_cases hlt : k < fs.length
    · obtain ⟨g, off, rfl, _, hg⟩ := HA.out (by omega)
      obtain ⟨g2, rfl, _, hg2⟩ := HB.out (by omega)
      have c1 : (w.drewN q).cell? ⟨g, off + k, none⟩ = some (.string ⟨(fs[k]).toArray⟩) := hg k hlt
      have c2 : (w.drewN q).cell? ⟨g2, k, none⟩ = some (.string ⟨(fs[k]).toArray⟩) := hg2 k hlt
      have i1 : (k : Int) < (fs.length : Int) := by omega
      have i2 : (0 : Int) ≤ (k : Int) := by omega
      clear hg hg2
      generalize fs[k] = f at *
      generalize hW : w.drewN q = W at *
      go_wp2_with fail
      go_quiet (fail)
      go_wp2_with fail
      go_roundw
      case rel => exact ⟨k + 1, _, by omega, by go_num, by rw [← hW, World.drewN_drewN]⟩
      case measure => simp [intOf]; omega
    · go_wp2_with fail
      go_ret
      exact ⟨rfl, below_drewN (Below.refl _ _) q⟩

set_option maxRecDepth 100000 in
set_option maxHeartbeats 2000000 in
theorem quotes_main (v : Value) (l : List (List UInt8)) (sep : UInt8) (p : Nat) (w : World) (hk : Kinds w) (hl : SSI w v l) (h1 : 0 < l.length) (h20 : l.length ≤ 20) (s1 : sep ≠ 34) (s2 : sep ≠ 10) (s3 : sep ≠ 13) (hp : p < 256) :
    Calls Tryd.prog 5 #[v, .int .u8 sep.toNat, .int .u8 p] w fun e w' => e = .returned (.bool true) ∧ Below w.heap.size w w' := by
  have HA := Lib.hid (awake_any w hk)
  have HL := Lib.hid hl
  obtain ⟨a, cap, rfl, hl⟩ := hl
  obtain ⟨g, off, rfl, hg, hc⟩ := hl h1
  have HC := Lib.hid hc
  have ne : ∀ n : Nat, n < 256 → sep ≠ UInt8.ofNat n → ((sep.toNat : Int) == (n : Int)) = false := fun n hn h => by
    rw [beq_eq_false_iff_ne]
    intro e
    apply h
    apply UInt8.toNat_inj.1
    rw [Asc.ofNat_toNat8 hn]
    exact_mod_cast e
  have t1 : ((sep.toNat : Int) == 34) = false := ne 34 (by omega) s1
  have t2 : ((sep.toNat : Int) == 10) = false := ne 10 (by omega) s2
  have t3 : ((sep.toNat : Int) == 13) = false := ne 13 (by omega) s3
  have t4 : ((l.length : Int) == 0) = false := by rw [beq_eq_false_iff_ne]; omega
  have t5 : decide (20 < (l.length : Int)) = false := by simp; omega
  clear ne hk hl hc
  go_enter Tryd.func5, Tryd.ntmps5
  go_wp2_with (go_at_call 7; refine HA.out.mono ?_; rintro e w1 ⟨rfl, hb1⟩)
  go_loopw [7, 39] (fun s i wr => ∃ k : Nat, k ≤ l.length ∧ i = .int .i64 k ∧ s = .string ⟨(Asc.joinQ sep (decide (p % 2 = 0)) (l.take k)).toArray⟩ ∧ (∀ x ∈ l.take k, x.length ≤ 60) ∧ Below w1.heap.size w1 wr) (fun _ i _ => l.length - (intOf i).toNat)
  case atStart => exact ⟨0, by omega, rfl, rfl, fun x hx => by simp at hx, Below.refl _ _⟩
  case round =>
    obtain ⟨k, hkl, rfl, rfl, hx60, hb⟩ := hrel
    by_cases hlt : k < l.length
    · have hcell : wr.cell? ⟨g, off + k, none⟩ = some (.string ⟨(l[k]).toArray⟩) := by
        have z1 : g < w1.heap.size := Nat.lt_of_lt_of_le hg hb1.size
        exact ((hb.cell (p := ⟨g, off + k, none⟩) z1).trans (hb1.cell (p := ⟨g, off + k, none⟩) hg)).trans (HC.out k hlt)
      by_cases h60 : (l[k]).length ≤ 60
      · have t6 : decide (60 < ((l[k]).length : Int)) = false := by simp; omega
        have H60 := Lib.hid hx60
        have hjl : (Asc.joinQ sep (decide (p % 2 = 0)) (l.take k)).length ≤ 2460 := by
          have := Asc.joinQ_len sep (decide (p % 2 = 0)) (l.take k) hx60
          rw [List.length_take] at this
          omega
        rcases Nat.eq_zero_or_pos k with h0 | h0
        · subst h0
          have HJ := Lib.hid (show Asc.joinQ sep (decide (p % 2 = 0)) (l.take 1) = Asc.item sep (decide (p % 2 = 0)) l[0] by
            cases l with
            | nil => simp at h1
            | cons a b => rfl)
          have HX : Hid ((l[0]).length ≤ 60 → ∀ y ∈ l.take 1, y.length ≤ 60) := (show (l[0]).length ≤ 60 → ∀ y ∈ l.take 1, y.length ≤ 60 from fun h y hy => by
            rw [show l.take 1 = l.take (0 + 1) from rfl, Asc.snoc_take l 0 hlt] at hy
            simp at hy; subst hy; exact h)
          have hj0 : ∀ b, Asc.joinQ sep b [] = [] := fun _ => rfl
          rw [Nat.add_zero] at hcell
          clear hx60
          generalize l[0] = x at *
          go_wp2_with fail
          go_loop [10, 11, 12] (fun q sp i => ∃ m : Nat, m ≤ x.length ∧ i = .int .i64 m ∧ q = .string ⟨(Asc.dbl (x.take m)).toArray⟩ ∧ sp = .bool (Asc.special sep (x.take m))) (fun _ _ i => x.length - (intOf i).toNat)
          case atStart => exact ⟨0, by omega, rfl, rfl, rfl⟩
          case round =>
            obtain ⟨m, hm, rfl, rfl, rfl⟩ := hrel
            by_cases hml : m < x.length
            · obtain ⟨c, ⟨_, hy⟩, hcc, hc2⟩ := byte_at x m hml
              have HC2 := Lib.hid hcc
              have hex : (ByteArray.mk x.toArray).extract m (m + 1) = ⟨#[x[m]]⟩ := by rw [Asc.extract_seg, Asc.seg_snoc x (Nat.le_refl _) hml, Asc.seg_same]; rfl
              have HQ := Lib.hid (Asc.dbl_snoc (x.take m) x[m])
              have HZ := Lib.hid (Asc.special_snoc sep (x.take m) x[m])
              rw [← Asc.snoc_take x m hml] at HQ HZ
              have hdl : (Asc.dbl (x.take m)).length ≤ 120 := by have := Asc.dbl_len (x.take m); rw [List.length_take] at this; omega
              clear hcc
              generalize x[m] = b at *
              by_cases e34 : b = 34
              · subst e34
                obtain rfl : c = 34 := by rw [← HC2.out]; rfl
                cases hs : Asc.special sep (x.take m)
                all_goals
                  rw [hs] at HZ
                  generalize Asc.dbl (x.take m) = D at *
                  clear hs
                  go_wp2_with fail
                  go_round
                  case rel => exact ⟨m + 1, by omega, by go_num, by rw [HQ.out, if_pos rfl, show ([34, 34] : List UInt8) = [34] ++ [34] from rfl, ← List.append_assoc, ← ba_app, ← ba_app], by rw [HZ.out]; rfl⟩
                  case measure => simp [intOf]; omega
              · have n34 : ((c : Int) == 34) = false := by
                  rw [beq_eq_false_iff_ne]
                  intro e
                  apply e34
                  apply UInt8.toNat_inj.1
                  rw [HC2.out]
                  exact_mod_cast e
                rw [if_neg e34] at HQ
                cases hs : Asc.special sep (x.take m)
                · rw [hs, decide_eq_false e34, Bool.false_or, Bool.false_or] at HZ
                  by_cases es : b = sep
                  · have r3 : ((c : Int) == (sep.toNat : Int)) = true := by rw [beq_iff_eq, ← HC2.out, es]
                    rw [decide_eq_true es] at HZ
                    generalize Asc.dbl (x.take m) = D at *
                    clear hs es e34
                    go_wp2_with fail
                    go_round
                    case rel => exact ⟨m + 1, by omega, by go_num, by rw [HQ.out, ← ba_app], by rw [HZ.out]⟩
                    case measure => simp [intOf]; omega
                  · have r3 : ((c : Int) == (sep.toNat : Int)) = false := by
                      rw [beq_eq_false_iff_ne]
                      intro e
                      apply es
                      apply UInt8.toNat_inj.1
                      rw [HC2.out]
                      exact_mod_cast e
                    rw [decide_eq_false es] at HZ
                    generalize Asc.dbl (x.take m) = D at *
                    clear hs es e34
                    go_wp2_with fail
                    go_round
                    case rel => exact ⟨m + 1, by omega, by go_num, by rw [HQ.out, ← ba_app], by rw [HZ.out]⟩
                    case measure => simp [intOf]; omega
                · rw [hs, Bool.true_or] at HZ
                  generalize Asc.dbl (x.take m) = D at *
                  clear hs e34
                  go_wp2_with fail
                  go_round
                  case rel => exact ⟨m + 1, by omega, by go_num, by rw [HQ.out, ← ba_app], by rw [HZ.out]⟩
                  case measure => simp [intOf]; omega
            · obtain rfl : m = x.length := by omega
              have hdl : (Asc.dbl x).length ≤ 120 := by have := Asc.dbl_len x; omega
              have ht : x.take x.length = x := List.take_length
              have HIT := Lib.hid (show Asc.item sep (decide (p % 2 = 0)) x = if Asc.special sep x || decide (p % 2 = 0) then 34 :: (Asc.dbl x ++ [34]) else x from rfl)
              have pr : ((p : Int) % 2 == 0) = decide (p % 2 = 0) := by rw [Bool.eq_iff_iff]; simp; omega
              rw [ht]
              generalize Asc.dbl x = D at *
              cases hs : Asc.special sep x
              · cases hpl : decide (p % 2 = 0)
                · have HIT2 : Hid (Asc.item sep (decide (p % 2 = 0)) x = x) := (show Asc.item sep (decide (p % 2 = 0)) x = x by rw [HIT.out, hs, hpl]; rfl)
                  rw [hpl] at pr
                  go_wp2_with fail
                  refine ⟨⟨1, by omega, rfl, ?_, HX.out h60, hb⟩, by simp [intOf]; omega⟩
                  rw [HJ.out, HIT2.out]
                  rw [ba_nil]
                · have HIT2 : Hid (Asc.item sep (decide (p % 2 = 0)) x = 34 :: (D ++ [34])) := (show Asc.item sep (decide (p % 2 = 0)) x = 34 :: (D ++ [34]) by rw [HIT.out, hs, hpl]; rfl)
                  rw [hpl] at pr
                  go_wp2_with fail
                  refine ⟨⟨1, by omega, rfl, ?_, HX.out h60, hb⟩, by simp [intOf]; omega⟩
                  rw [HJ.out, HIT2.out, show (34 :: (D ++ [34]) : List UInt8) = [34] ++ D ++ [34] from rfl, ← ba_app, ← ba_app]
                  rw [ba_nil]
              · have HIT2 : Hid (Asc.item sep (decide (p % 2 = 0)) x = 34 :: (D ++ [34])) := (show Asc.item sep (decide (p % 2 = 0)) x = 34 :: (D ++ [34]) by rw [HIT.out, hs]; rfl)
                go_wp2_with fail
                refine ⟨⟨1, by omega, rfl, ?_, HX.out h60, hb⟩, by simp [intOf]; omega⟩
                rw [HJ.out, HIT2.out, show (34 :: (D ++ [34]) : List UInt8) = [34] ++ D ++ [34] from rfl, ← ba_app, ← ba_app]
                rw [ba_nil]
        · have HJ := Lib.hid (Asc.joinQ_snoc sep (decide (p % 2 = 0)) (l.take k) l[k] (by intro e; have := congrArg List.length e; rw [List.length_take, List.length_nil] at this; omega))
          rw [← Asc.snoc_take l k hlt] at HJ
          have HX : Hid ((l[k]).length ≤ 60 → ∀ y ∈ l.take (k + 1), y.length ≤ 60) := (show (l[k]).length ≤ 60 → ∀ y ∈ l.take (k + 1), y.length ≤ 60 from fun h y hy => by
            rw [Asc.snoc_take l k hlt] at hy
            rcases List.mem_append.1 hy with h' | h'
            · exact hx60 y h'
            · simp at h'; subst h'; exact h)
          have kc := conv1_u8
          have hsz := hb.size
          clear hx60
          generalize l[k] = x at *
          generalize Asc.joinQ sep (decide (p % 2 = 0)) (l.take k) = J at *
          go_wp2_with fail
          go_loop [10, 11, 12] (fun q sp i => ∃ m : Nat, m ≤ x.length ∧ i = .int .i64 m ∧ q = .string ⟨(Asc.dbl (x.take m)).toArray⟩ ∧ sp = .bool (Asc.special sep (x.take m))) (fun _ _ i => x.length - (intOf i).toNat)
          case atStart => exact ⟨0, by omega, rfl, rfl, rfl⟩
          case round =>
            obtain ⟨m, hm, rfl, rfl, rfl⟩ := hrel
            by_cases hml : m < x.length
            · obtain ⟨c, ⟨_, hy⟩, hcc, hc2⟩ := byte_at x m hml
              have HC2 := Lib.hid hcc
              have hex : (ByteArray.mk x.toArray).extract m (m + 1) = ⟨#[x[m]]⟩ := by rw [Asc.extract_seg, Asc.seg_snoc x (Nat.le_refl _) hml, Asc.seg_same]; rfl
              have HQ := Lib.hid (Asc.dbl_snoc (x.take m) x[m])
              have HZ := Lib.hid (Asc.special_snoc sep (x.take m) x[m])
              rw [← Asc.snoc_take x m hml] at HQ HZ
              have hdl : (Asc.dbl (x.take m)).length ≤ 120 := by have := Asc.dbl_len (x.take m); rw [List.length_take] at this; omega
              clear hcc
              generalize x[m] = b at *
              by_cases e34 : b = 34
              · subst e34
                obtain rfl : c = 34 := by rw [← HC2.out]; rfl
                cases hs : Asc.special sep (x.take m)
                all_goals
                  rw [hs] at HZ
                  generalize Asc.dbl (x.take m) = D at *
                  clear hs
                  go_wp2_with fail
                  go_round
                  case rel => exact ⟨m + 1, by omega, by go_num, by rw [HQ.out, if_pos rfl, show ([34, 34] : List UInt8) = [34] ++ [34] from rfl, ← List.append_assoc, ← ba_app, ← ba_app], by rw [HZ.out]; rfl⟩
                  case measure => simp [intOf]; omega
              · have n34 : ((c : Int) == 34) = false := by
                  rw [beq_eq_false_iff_ne]
                  intro e
                  apply e34
                  apply UInt8.toNat_inj.1
                  rw [HC2.out]
                  exact_mod_cast e
                rw [if_neg e34] at HQ
                cases hs : Asc.special sep (x.take m)
                · rw [hs, decide_eq_false e34, Bool.false_or, Bool.false_or] at HZ
                  by_cases es : b = sep
                  · have r3 : ((c : Int) == (sep.toNat : Int)) = true := by rw [beq_iff_eq, ← HC2.out, es]
                    rw [decide_eq_true es] at HZ
                    generalize Asc.dbl (x.take m) = D at *
                    clear hs es e34
                    go_wp2_with fail
                    go_round
                    case rel => exact ⟨m + 1, by omega, by go_num, by rw [HQ.out, ← ba_app], by rw [HZ.out]⟩
                    case measure => simp [intOf]; omega
                  · have r3 : ((c : Int) == (sep.toNat : Int)) = false := by
                      rw [beq_eq_false_iff_ne]
                      intro e
                      apply es
                      apply UInt8.toNat_inj.1
                      rw [HC2.out]
                      exact_mod_cast e
                    rw [decide_eq_false es] at HZ
                    generalize Asc.dbl (x.take m) = D at *
                    clear hs es e34
                    go_wp2_with fail
                    go_round
                    case rel => exact ⟨m + 1, by omega, by go_num, by rw [HQ.out, ← ba_app], by rw [HZ.out]⟩
                    case measure => simp [intOf]; omega
                · rw [hs, Bool.true_or] at HZ
                  generalize Asc.dbl (x.take m) = D at *
                  clear hs e34
                  go_wp2_with fail
                  go_round
                  case rel => exact ⟨m + 1, by omega, by go_num, by rw [HQ.out, ← ba_app], by rw [HZ.out]⟩
                  case measure => simp [intOf]; omega
            · obtain rfl : m = x.length := by omega
              have hdl : (Asc.dbl x).length ≤ 120 := by have := Asc.dbl_len x; omega
              have ht : x.take x.length = x := List.take_length
              have HIT := Lib.hid (show Asc.item sep (decide (p % 2 = 0)) x = if Asc.special sep x || decide (p % 2 = 0) then 34 :: (Asc.dbl x ++ [34]) else x from rfl)
              have pr : ((p : Int) % 2 == 0) = decide (p % 2 = 0) := by rw [Bool.eq_iff_iff]; simp; omega
              rw [ht]
              generalize Asc.dbl x = D at *
              cases hs : Asc.special sep x
              · cases hpl : decide (p % 2 = 0)
                · have HIT2 : Hid (Asc.item sep (decide (p % 2 = 0)) x = x) := (show Asc.item sep (decide (p % 2 = 0)) x = x by rw [HIT.out, hs, hpl]; rfl)
                  rw [hpl] at pr
                  go_wp2_with fail
                  refine ⟨⟨k + 1, by omega, by go_num, ?_, HX.out h60, hb.alloc hsz _⟩, by simp [intOf]; omega⟩
                  rw [HJ.out, HIT2.out, ← ba_app, ← ba_app]
                · have HIT2 : Hid (Asc.item sep (decide (p % 2 = 0)) x = 34 :: (D ++ [34])) := (show Asc.item sep (decide (p % 2 = 0)) x = 34 :: (D ++ [34]) by rw [HIT.out, hs, hpl]; rfl)
                  rw [hpl] at pr
                  go_wp2_with fail
                  refine ⟨⟨k + 1, by omega, by go_num, ?_, HX.out h60, hb.alloc hsz _⟩, by simp [intOf]; omega⟩
                  rw [HJ.out, HIT2.out, show (34 :: (D ++ [34]) : List UInt8) = [34] ++ D ++ [34] from rfl, ← ba_app, ← ba_app, ← ba_app, ← ba_app]
              · have HIT2 : Hid (Asc.item sep (decide (p % 2 = 0)) x = 34 :: (D ++ [34])) := (show Asc.item sep (decide (p % 2 = 0)) x = 34 :: (D ++ [34]) by rw [HIT.out, hs]; rfl)
                go_wp2_with fail
                refine ⟨⟨k + 1, by omega, by go_num, ?_, HX.out h60, hb.alloc hsz _⟩, by simp [intOf]; omega⟩
                rw [HJ.out, HIT2.out, show (34 :: (D ++ [34]) : List UInt8) = [34] ++ D ++ [34] from rfl, ← ba_app, ← ba_app, ← ba_app, ← ba_app]
      · have t6 : decide (60 < ((l[k]).length : Int)) = true := by simp; omega
        generalize l[k] = x at *
        go_wp2_with fail
        go_ret
        exact ⟨rfl, hb1.trans (hb.mono hb1.size)⟩
    · obtain rfl : k = l.length := by omega
      have hjl := Asc.joinQ_len sep (decide (p % 2 = 0)) l (by rw [List.take_length] at hx60; exact hx60)
      have hj := Asc.delimd_join s1 (decide (p % 2 = 0)) l (by intro e; rw [e] at h1; simp at h1)
      have HD := Lib.hid (delimited_right (Asc.joinQ sep (decide (p % 2 = 0)) l) sep l wr (by omega) s1 s2 s3 hj (by omega))
      have HS := Lib.hid fun v2 W hb2 h2 => same_any (.slice (some ⟨g, off, none⟩) l.length cap) v2 l W (HL.out.below hb2) h2 (by omega)
      have hb2 : Below w.heap.size w wr := hb1.trans (hb.mono hb1.size)
      rw [List.take_length]
      clear hx60 hj hjl
      generalize Asc.joinQ sep (decide (p % 2 = 0)) l = J at *
      go_wp2_with fail
      refine HD.out.mono ?_
      rintro e w3 ⟨v3, rfl, hs3, hb3⟩
      have H3 := Lib.hid hs3
      have hb4 : Below w.heap.size w w3 := hb2.trans (hb3.mono hb2.size)
      clear hs3
      go_wp2_with fail
      refine (HS.out v3 w3 hb4 H3.out).mono ?_
      rintro e w5 ⟨rfl, hb5⟩
      go_wp2_with fail
      go_ret
      exact ⟨rfl, hb4.trans (hb5.mono hb4.size)⟩

end Go.Proofs.YtfdbjgdafolbmaaDoor

/-
  The parser: an atom with what follows it.
-/
import Derived.Test.YtphbkompnddflaaGreatDoorPatYb
namespace Go.Proofs.YtphbkompnddflaaGreatDoor
open Go.RowKit

theorem NG.pq {b B j : Nat} {l : List UInt8} {W W' : World} {t : NT} {v : Value} (h : NG (fun k => B < k) W t v) (k : PQ b l j W W') (hb : b ≤ B) : NG (fun k => B < k) W' t v := NG.go ⟨k.ap.1.size, fun _ hk hl => ⟨hk, k.ap.block (by omega) hl⟩⟩ _ _ h
theorem NG.low {B : Nat} {W W' : World} {t : NT} {v : Value} (h : NG (fun k => B < k) W t v) (k : Below W.heap.size W W') : NG (fun k => B < k) W' t v := NG.go ⟨k.size, fun _ hk hl => ⟨hk, k.block _ hl⟩⟩ _ _ h
theorem bkn {b : Nat} {W : World} {op : Int} {ra : Option Addr} {rn rc : Nat} {nm : List UInt8} {a : Option Addr} {n c : Nat} {mn mx : Int} (h : BK b 6 (nE op ra rn rc nm a n c mn mx) W) :
    W.cell? ⟨b, 0, none⟩ = some (.int .i64 op) ∧ W.cell? ⟨b, 1, none⟩ = some (.slice ra rn rc) ∧ W.cell? ⟨b, 2, none⟩ = some (.string ⟨nm.toArray⟩) ∧ W.cell? ⟨b, 3, none⟩ = some (.slice a n c) ∧ W.cell? ⟨b, 4, none⟩ = some (.int .i64 mn) ∧ W.cell? ⟨b, 5, none⟩ = some (.int .i64 mx) :=
  ⟨h.ev 0 (by omega), h.ev 1 (by omega), h.ev 2 (by omega), h.ev 3 (by omega), h.ev 4 (by omega), h.ev 5 (by omega)⟩
/-- Within a function that holds a node in a block of its own, besides its result's. -/
structure PA (b : Nat) (l : List UInt8) (i : Nat) (w : World) (q : Nat) (E : Nat → Value) (t : NT) (v : Value) (W : World) : Prop where
  pr : PR b l i w W
  bk : BK q 6 E W
  ng : NG (fun k => w.heap.size < k) W t v
  hq : w.heap.size < q
theorem PA.go {b : Nat} {l : List UInt8} {i j : Nat} {w : World} {q : Nat} {E : Nat → Value} {t : NT} {v : Value} {W W' : World} (h : PA b l i w q E t v W) (k : PQ b l j W W') : PA b l j w q E t v W' := ⟨h.pr.go k, h.bk.go k.ap (by have := h.pr.hb; have := h.hq; omega), h.ng.pq k (Nat.le_of_lt h.pr.hb), h.hq⟩
theorem PA.start {b : Nat} {l : List UInt8} {j : Nat} {w W : World} {t : NT} {op : Int} {ra : Option Addr} {rn rc : Nat} {nm : List UInt8} {a : Option Addr} {n c : Nat} {mn mx : Int} (h : PR b l j w W) (hT : NG (fun k => w.heap.size < k) W t (.agg #[.int .i64 op, .slice ra rn rc, .string ⟨nm.toArray⟩, .slice a n c, .int .i64 mn, .int .i64 mx])) :
    PA b l j w W.heap.size (nE op ra rn rc nm a n c mn mx) t (.agg #[.int .i64 op, .slice ra rn rc, .string ⟨nm.toArray⟩, .slice a n c, .int .i64 mn, .int .i64 mx]) (W.alloc (.cells #[.int .i64 op, .slice ra rn rc, .string ⟨nm.toArray⟩, .slice a n c, .int .i64 mn, .int .i64 mx] 25)) :=
  ⟨h.on (al_below W _), nE_new W op ra rn rc nm a n c mn mx, hT.low (al_below W _), h.sz⟩

set_option maxHeartbeats 2000000 in
set_option maxRecDepth 1000000 in
theorem rep_none (b : Nat) (l : List UInt8) (i : Nat) (t : NT) (j : Nat) (ha : RdC 73 b l i t j) (hn : ∀ d : Nat, (d = 42 ∨ d = 43 ∨ d = 63 ∨ d = 123) → Asc.at_ l j ≠ d) : RdC 62 b l i t j := by
  intro w h
  have HT : Hid (∀ d : Nat, (d = 42 ∨ d = 43 ∨ d = 63 ∨ d = 123) → ∀ W, PS b l j W → Calls Tryz.prog 45 #[.pointer (some ⟨b, 0, none⟩), .int .u8 (d : Int)] W fun r w' => r = .returned (.bool false) ∧ PQ b l j W w') := Lib.hid (fun d hd W hW => ptakes_no b l j W hW d (hn d hd))
  have HA := Lib.hid ha
  have HS := Lib.hid (PR.start h)
  clear h ha hn
  go_enter Tryz.func62, Tryz.ntmps62
  go_wp2_with fail
  refine (HA.out _ HS.out.ps).mono ?_
  rintro e w1 ⟨v, rfl, hT, hq⟩
  have HS1 := Lib.hid (HS.out.go hq)
  have HT1 := Lib.hid (hT.up HS.out.sz)
  obtain ⟨op, rs, nm, kids, mn, mx, ra, rc, a, cc, ht, rfl, _⟩ := hT.open
  have HP := Lib.hid (PA.start HS1.out HT1.out)
  clear hT hq ht HS HS1 HT1
  go_wp2_with fail
  refine (HT.out 42 (by decide) _ HP.out.pr.ps).mono ?_
  rintro e w2 ⟨rfl, hq⟩
  have HP2 := Lib.hid (HP.out.go hq)
  clear hq HP
  go_wp2_with fail
  refine (HT.out 43 (by decide) _ HP2.out.pr.ps).mono ?_
  rintro e w3 ⟨rfl, hq⟩
  have HP3 := Lib.hid (HP2.out.go hq)
  clear hq HP2
  go_wp2_with fail
  refine (HT.out 63 (by decide) _ HP3.out.pr.ps).mono ?_
  rintro e w4 ⟨rfl, hq⟩
  have HP4 := Lib.hid (HP3.out.go hq)
  clear hq HP3
  go_wp2_with fail
  refine (HT.out 123 (by decide) _ HP4.out.pr.ps).mono ?_
  rintro e w5 ⟨rfl, hq⟩
  have HP5 := Lib.hid (HP4.out.go hq)
  clear hq HP4
  obtain ⟨k0, k1, k2, k3, k4, k5, f0, f1, f2, f3, f4, f5⟩ := bk6 HP5.out.pr.bk
  obtain ⟨q0, q1, q2, q3, q4, q5⟩ := bkn HP5.out.bk
  obtain ⟨q, hq⟩ : ∃ q, w1.heap.size = q := ⟨_, rfl⟩
  rw [hq] at q0 q1 q2 q3 q4 q5 ⊢
  have hqw : q ≠ w.heap.size := by have := HP5.out.hq; omega
  go_wp2_with fail
  rw [nest6 w5]
  exact node_ret3 (P := 2) rfl HP5.out.pr _ _ rfl (by rfl) HP5.out.ng

set_option maxHeartbeats 2000000 in
set_option maxRecDepth 1000000 in
theorem rep_plus (b : Nat) (l : List UInt8) (i : Nat) (t : NT) (j : Nat) (ha : RdC 73 b l i t j) (hc : Asc.at_ l j = 43) : RdC 62 b l i (.node 4 [] [] [t] 1 (-1)) (j + 1) := by
  intro w h
  have HT := Lib.hid fun W (hW : PS b l j W) => ptakes_no b l j W hW 42 (by rw [hc]; decide)
  have HY := Lib.hid fun W (hW : PS b l j W) => ptakes_yes b l j W hW 43 hc (by decide)
  have HA := Lib.hid ha
  have HS := Lib.hid (PR.start h)
  clear h ha hc
  go_enter Tryz.func62, Tryz.ntmps62
  go_wp2_with fail
  refine (HA.out _ HS.out.ps).mono ?_
  rintro e w1 ⟨v, rfl, hT, hq⟩
  have HS1 := Lib.hid (HS.out.go hq)
  have HT1 := Lib.hid (hT.up HS.out.sz)
  obtain ⟨op, rs, nm, kids, mn, mx, ra, rc, a, cc, ht, rfl, _⟩ := hT.open
  have HP := Lib.hid (PA.start HS1.out HT1.out)
  clear hT hq ht HS HS1 HT1
  go_wp2_with fail
  refine (HT.out _ HP.out.pr.ps).mono ?_
  rintro e w2 ⟨rfl, hq⟩
  have HP2 := Lib.hid (HP.out.go hq)
  clear hq HP
  go_wp2_with fail
  refine (HY.out _ HP2.out.pr.ps).mono ?_
  rintro e w5 ⟨rfl, hq⟩
  have HP5 := Lib.hid (HP2.out.go hq)
  clear hq HP2
  obtain ⟨q0, q1, q2, q3, q4, q5⟩ := bkn HP5.out.bk
  obtain ⟨q, hq⟩ : ∃ q, w1.heap.size = q := ⟨_, rfl⟩
  rw [hq] at q0 q1 q2 q3 q4 q5 ⊢
  have hqw : q ≠ w.heap.size := by have := HP5.out.hq; omega
  have HR5 := Lib.hid (HP5.out.pr.on (al_below w5 (.cells #[.int .i64 op, .slice ra rs.length rc, .string ⟨nm.toArray⟩, .slice a kids.length cc, .int .i64 mn, .int .i64 mx] 25)))
  have HK : Hid (RW (fun k => w.heap.size < k) 6 (KR (fun k => w.heap.size < k) (w5.alloc (.cells #[.int .i64 op, .slice ra rs.length rc, .string ⟨nm.toArray⟩, .slice a kids.length cc, .int .i64 mn, .int .i64 mx] 25))) (w5.alloc (.cells #[.int .i64 op, .slice ra rs.length rc, .string ⟨nm.toArray⟩, .slice a kids.length cc, .int .i64 mn, .int .i64 mx] 25)) [t] (.slice (some ⟨w5.heap.size, 0, none⟩) 1 1)) :=
    Lib.hid ((OR.lit (B := w.heap.size + 1) w5 t [.int .i64 op, .slice ra rs.length rc, .string ⟨nm.toArray⟩, .slice a kids.length cc, .int .i64 mn, .int .i64 mx] HP5.out.pr.sz rfl (HP5.out.ng.low (al_below w5 _))).rw (fun _ hb => hb))
  obtain ⟨k0, k1, k2, k3, k4, k5, f0, f1, f2, f3, f4, f5⟩ := bk6 HR5.out.bk
  go_wp2_with fail
  rw [nest6]
  exact node_ret3 (P := 2) rfl HR5.out _ _ rfl (by rfl) (NG.node (rs := []) (kids := [t]) RW.nil HK.out 4 [] 1 (-1) (by simp))
end Go.Proofs.YtphbkompnddflaaGreatDoor

/-
  The parser: atoms.
-/
import Derived.Test.YtphbkompnddflaaGreatDoorPatYa
namespace Go.Proofs.YtphbkompnddflaaGreatDoor
open Go.RowKit

/-- A node that the parser has read: all its blocks are new, and the parser stands at j. -/
def PN (b : Nat) (l : List UInt8) (t : NT) (j : Nat) (w : World) (e : Ending) (w' : World) : Prop := ∃ v, e = .returned v ∧ NG (fun k => w.heap.size ≤ k) w' t v ∧ PQ b l j w w'
/-- What a function of the parser reads from i on. -/
def RdC (fn : Nat) (b : Nat) (l : List UInt8) (i : Nat) (t : NT) (j : Nat) : Prop := ∀ W, PS b l i W → Calls Tryz.prog fn #[.pointer (some ⟨b, 0, none⟩)] W (PN b l t j W)
/-- Within a function whose result lies in a block of its own. -/
structure PR (b : Nat) (l : List UInt8) (i : Nat) (w W : World) : Prop where
  pq : PQ b l i w W
  bk : BK w.heap.size 6 (nE 0 none 0 0 [] none 0 0 0 0) W
  hb : b < w.heap.size
theorem PR.start {b : Nat} {l : List UInt8} {i : Nat} {w : World} (h : PS b l i w) : PR b l i w (w.alloc (.cells #[.int .i64 0, .slice none 0 0, .string ⟨#[]⟩, .slice none 0 0, .int .i64 0, .int .i64 0] 25)) := ⟨(PQ.refl h).on (al_below w _), nE_new w 0 none 0 0 [] none 0 0 0 0, h.st.lt⟩
theorem PR.go {b : Nat} {l : List UInt8} {i j : Nat} {w W W' : World} (h : PR b l i w W) (k : PQ b l j W W') : PR b l j w W' := ⟨h.pq.trans k, h.bk.go k.ap (Nat.ne_of_gt h.hb), h.hb⟩
theorem PR.sz {b : Nat} {l : List UInt8} {i : Nat} {w W : World} (h : PR b l i w W) : w.heap.size < W.heap.size := h.bk.lt
theorem PR.far {b : Nat} {l : List UInt8} {i : Nat} {w W W' : World} (h : PR b l i w W) (k : Below (w.heap.size + 1) W W') : PR b l i w W' := ⟨h.pq.far (k.mono (Nat.le_succ _)) h.hb, h.bk.on k (Nat.lt_succ_self _), h.hb⟩
theorem PR.on {b : Nat} {l : List UInt8} {i : Nat} {w W W' : World} (h : PR b l i w W) (k : Below W.heap.size W W') : PR b l i w W' := h.far (k.mono h.sz)
theorem PR.ps {b : Nat} {l : List UInt8} {i : Nat} {w W : World} (h : PR b l i w W) : PS b l i W := h.pq.ps
theorem node_ret3 {fn : Func} {P : Tmp} (hfn : fn.results = #[.cell P 25]) {w W : World} {b j : Nat} {l : List UInt8} (hS : PR b l j w W) (tmps : Array Value) (df : _) (hdf : df = []) (hp : tmps.getD P undef = .pointer (some ⟨w.heap.size, 0, none⟩)) {v0 v1 v2 v3 v4 v5 : Value} {t : NT}
    (hT : NG (fun k => w.heap.size < k) W t (.agg #[v0, v1, v2, v3, v4, v5])) :
    bodyPost Tryz.prog fn (PN b l t j w) Exit.ret { tmps := tmps, defers := df } (setL W w.heap.size [v0, v1, v2, v3, v4, v5] 0) := by
  have hb := setL_below (B := w.heap.size) (b := w.heap.size) (Nat.le_refl _) [v0, v1, v2, v3, v4, v5] W 0
  exact item_ret hfn hS.bk hdf hp ⟨_, rfl, NG.go ⟨hb.size, fun j hj _ => ⟨Nat.le_of_lt hj, setL_heap _ (Nat.ne_of_gt hj) _ _⟩⟩ _ _ hT, hS.pq.far hb hS.hb⟩
theorem NG.up {W W' : World} {B : Nat} {t : NT} {v : Value} (h : NG (fun k => W.heap.size ≤ k) W' t v) (hB : B < W.heap.size) : NG (fun k => B < k) W' t v := NG.go ⟨Nat.le_refl _, fun _ hk _ => ⟨Nat.lt_of_lt_of_le hB hk, rfl⟩⟩ _ _ h

set_option maxHeartbeats 1000000 in
set_option maxRecDepth 1000000 in
theorem atom_plain (b : Nat) (l : List UInt8) (i : Nat) (c : UInt8) (hc : Asc.at_ l i = c.toNat) (hs : c ∉ spec) (hc1 : 32 ≤ c.toNat) (hc2 : c.toNat ≤ 126) : RdC 73 b l i (.node 1 (rngs (spanF c.toNat (c.toNat + 1)) 0) [] [] 0 0) (i + 1) := by
  intro w h
  have hn : ∀ d : UInt8, d ∈ spec → Asc.at_ l i ≠ d.toNat := fun d hd e => hs (UInt8.toNat_inj.1 (e.symm.trans hc) ▸ hd)
  have HT : Hid (∀ d : Nat, (d = 40 ∨ d = 91 ∨ d = 46 ∨ d = 94 ∨ d = 36 ∨ d = 92) → ∀ W, PS b l i W → Calls Tryz.prog 45 #[.pointer (some ⟨b, 0, none⟩), .int .u8 (d : Int)] W fun r w' => r = .returned (.bool false) ∧ PQ b l i W w') := Lib.hid (fun d hd W hW => ptakes_no b l i W hW d (by
    rcases hd with rfl | rfl | rfl | rfl | rfl | rfl
    · exact hn 40 (by decide)
    · exact hn 91 (by decide)
    · exact hn 46 (by decide)
    · exact hn 94 (by decide)
    · exact hn 36 (by decide)
    · exact hn 92 (by decide)))
  have hl : i < l.length := Asc.at_lt (by omega)
  have hl2 := h.len
  have hw : IntKind.i64.wrap ((i : Int) + 1) = (i : Int) + 1 := IntWalk.i64_in _ (by omega)
  have HL := Lib.hid hl
  have HN := Lib.hid fun W (hW : PS b l i W) => pnext_ok b l i W hW c.toNat hc (by omega)
  have HPR := Lib.hid fun W => printable_yes c.toNat W hc1 hc2
  have HSP := Lib.hid fun W => special_no c W hs
  have HSN := Lib.hid fun W => span_any c c W
  obtain ⟨f, hf⟩ : ∃ f, spanF c.toNat (c.toNat + 1) = f := ⟨_, rfl⟩
  rw [hf] at HSN ⊢
  have HS := Lib.hid (PR.start h)
  clear h hl hn hc hs hc1 hc2 hf
  go_enter Tryz.func73, Tryz.ntmps73
  go_wp2_with fail
  refine (HN.out _ HS.out.ps).mono ?_
  rintro e w1 ⟨rfl, hq⟩
  have HS1 := Lib.hid (HS.out.go hq)
  clear hq HS
  go_wp2_with fail
  refine (HT.out 40 (by decide) _ HS1.out.ps).mono ?_
  rintro e w2 ⟨rfl, hq⟩
  have HS2 := Lib.hid (HS1.out.go hq)
  clear hq HS1
  go_wp2_with fail
  refine (HT.out 91 (by decide) _ HS2.out.ps).mono ?_
  rintro e w3 ⟨rfl, hq⟩
  have HS3 := Lib.hid (HS2.out.go hq)
  clear hq HS2
  go_wp2_with fail
  refine (HT.out 46 (by decide) _ HS3.out.ps).mono ?_
  rintro e w4 ⟨rfl, hq⟩
  have HS4 := Lib.hid (HS3.out.go hq)
  clear hq HS3
  go_wp2_with fail
  refine (HT.out 94 (by decide) _ HS4.out.ps).mono ?_
  rintro e w5 ⟨rfl, hq⟩
  have HS5 := Lib.hid (HS4.out.go hq)
  clear hq HS4
  go_wp2_with fail
  refine (HT.out 36 (by decide) _ HS5.out.ps).mono ?_
  rintro e w6 ⟨rfl, hq⟩
  have HS6 := Lib.hid (HS5.out.go hq)
  clear hq HS5
  go_wp2_with fail
  refine (HT.out 92 (by decide) _ HS6.out.ps).mono ?_
  rintro e w7 ⟨rfl, hq⟩
  have HS7 := Lib.hid (HS6.out.go hq)
  clear hq HS6
  have c1 := HS7.out.ps.c1
  have f1 := HS7.out.ps.st.fz 1
  go_wp2_with fail
  refine (HPR.out _).mono ?_
  rintro e wp ⟨rfl, rfl⟩
  go_wp2_with fail
  refine (HSP.out _).mono ?_
  rintro e wp ⟨rfl, rfl⟩
  go_wp2_with fail
  have HS8 := Lib.hid (HS7.out.go (HS7.out.ps.to (i + 1) HL.out))
  refine (HSN.out _).mono ?_
  rintro e w9 ⟨rfl, hb⟩
  have HS9 := Lib.hid (HS8.out.on hb)
  clear hb HS8
  clear HS7 c1 f1
  go_wp2_with fail
  refine (class_any _ _).mono ?_
  rintro e w10 ⟨v, rfl, hT, hb⟩
  have HS10 := Lib.hid (HS9.out.on hb)
  have HT10 := Lib.hid (hT.up HS9.out.sz)
  obtain ⟨op, rs, nm, kids, mn, mx, ra, rc, a, cc, ht, rfl, _⟩ := hT.open
  clear hT hb ht HS9
  obtain ⟨k0, k1, k2, k3, k4, k5, f0, f1, f2, f3, f4, f5⟩ := bk6 HS10.out.bk
  go_wp2_with fail
  rw [nest6 w10]
  exact node_ret3 (P := 2) rfl HS10.out _ _ rfl (by rfl) HT10.out
set_option maxHeartbeats 2000000 in
set_option maxRecDepth 1000000 in
theorem atom_digit (b : Nat) (l : List UInt8) (i : Nat) (hc : Asc.at_ l i = 92) (hd : Asc.at_ l (i + 1) = 100) : RdC 73 b l i (.node 1 (rngs Asc.isDigit 0) [] [] 0 0) (i + 2) := by
  intro w h
  have HT : Hid (∀ d : Nat, d ≠ 92 → ∀ W, PS b l i W → Calls Tryz.prog 45 #[.pointer (some ⟨b, 0, none⟩), .int .u8 (d : Int)] W fun r w' => r = .returned (.bool false) ∧ PQ b l i W w') := Lib.hid (fun d hd W hW => ptakes_no b l i W hW d (by rw [hc]; exact fun e => hd e.symm))
  have HY := Lib.hid fun W (hW : PS b l i W) => ptakes_yes b l i W hW 92 hc (by decide)
  have HN := Lib.hid fun W (hW : PS b l i W) => pnext_ok b l i W hW 92 hc (by decide)
  have HS := Lib.hid (PR.start h)
  have HE := Lib.hid fun W (hW : PS b l (i + 1) W) => escape_d b l (i + 1) W hW hd
  have hv := (zero_of_info infoS).1
  clear h hc hd
  go_enter Tryz.func73, Tryz.ntmps73
  go_wp2_with fail
  refine (HN.out _ HS.out.ps).mono ?_
  rintro e w1 ⟨rfl, hq⟩
  have HS1 := Lib.hid (HS.out.go hq)
  clear hq HS
  go_wp2_with fail
  refine (HT.out 40 (by decide) _ HS1.out.ps).mono ?_
  rintro e w2 ⟨rfl, hq⟩
  have HS2 := Lib.hid (HS1.out.go hq)
  clear hq HS1
  go_wp2_with fail
  refine (HT.out 91 (by decide) _ HS2.out.ps).mono ?_
  rintro e w3 ⟨rfl, hq⟩
  have HS3 := Lib.hid (HS2.out.go hq)
  clear hq HS2
  go_wp2_with fail
  refine (HT.out 46 (by decide) _ HS3.out.ps).mono ?_
  rintro e w4 ⟨rfl, hq⟩
  have HS4 := Lib.hid (HS3.out.go hq)
  clear hq HS3
  go_wp2_with fail
  refine (HT.out 94 (by decide) _ HS4.out.ps).mono ?_
  rintro e w5 ⟨rfl, hq⟩
  have HS5 := Lib.hid (HS4.out.go hq)
  clear hq HS4
  go_wp2_with fail
  refine (HT.out 36 (by decide) _ HS5.out.ps).mono ?_
  rintro e w6 ⟨rfl, hq⟩
  have HS6 := Lib.hid (HS5.out.go hq)
  clear hq HS5
  have c1 := HS6.out.ps.c1
  have f1 := HS6.out.ps.st.fz 1
  go_wp2_with fail
  clear c1 f1
  refine (HY.out _ HS6.out.ps).mono ?_
  rintro e wy ⟨rfl, hq⟩
  have HSy := Lib.hid (HS6.out.go hq)
  clear hq HS6
  go_wp2_with fail
  refine (HE.out _ HSy.out.ps).mono ?_
  rintro e we ⟨rfl, hq⟩
  have HSe := Lib.hid (HSy.out.go hq)
  clear hq HSy
  have hpn := put_new we (fun _ => false) Asc.isDigit 94
  rw [setA_false] at hpn
  go_wp2_with fail
  refine wp_load_set _ rfl we.heap.size rfl Asc.isDigit 94 (heap_alloc_new we _) ?_
  have HSf := Lib.hid (HSe.out.on (al_below we (.cells (setA Asc.isDigit) 94)))
  clear HSe
  go_wp2_with fail
  refine (class_any _ _).mono ?_
  rintro e wz ⟨v, rfl, hT, hb⟩
  have HSz := Lib.hid (HSf.out.on hb)
  have HTz := Lib.hid (hT.up HSf.out.sz)
  obtain ⟨op, rs, nm, kids, mn, mx, ra, rc, a, cc, ht, rfl, _⟩ := hT.open
  clear hT hb ht
  obtain ⟨k0, k1, k2, k3, k4, k5, f0, f1, f2, f3, f4, f5⟩ := bk6 HSz.out.bk
  go_wp2_with fail
  rw [nest6 wz]
  exact node_ret3 (P := 2) rfl HSz.out _ _ rfl (by rfl) HTz.out
set_option maxHeartbeats 2000000 in
set_option maxRecDepth 1000000 in
theorem atom_group (b : Nat) (l : List UInt8) (i : Nat) (t : NT) (j : Nat) (hc : Asc.at_ l i = 40) (hg : RdC 80 b l (i + 1) t j) : RdC 73 b l i t j := by
  intro w h
  have HT : Hid (∀ d : Nat, d ≠ 40 → ∀ W, PS b l i W → Calls Tryz.prog 45 #[.pointer (some ⟨b, 0, none⟩), .int .u8 (d : Int)] W fun r w' => r = .returned (.bool false) ∧ PQ b l i W w') := Lib.hid (fun d hd W hW => ptakes_no b l i W hW d (by rw [hc]; exact fun e => hd e.symm))
  have HY := Lib.hid fun W (hW : PS b l i W) => ptakes_yes b l i W hW 40 hc (by decide)
  have HN := Lib.hid fun W (hW : PS b l i W) => pnext_ok b l i W hW 40 hc (by decide)
  have HS := Lib.hid (PR.start h)
  have HG := Lib.hid hg
  clear h hc hg HT
  go_enter Tryz.func73, Tryz.ntmps73
  go_wp2_with fail
  refine (HN.out _ HS.out.ps).mono ?_
  rintro e w1 ⟨rfl, hq⟩
  have HS1 := Lib.hid (HS.out.go hq)
  clear hq HS
  go_wp2_with fail
  refine (HY.out _ HS1.out.ps).mono ?_
  rintro e wy ⟨rfl, hq⟩
  have HSy := Lib.hid (HS1.out.go hq)
  clear hq HS1
  go_wp2_with fail
  refine (HG.out _ HSy.out.ps).mono ?_
  rintro e wz ⟨v, rfl, hT, hb⟩
  have HSz := Lib.hid (HSy.out.go hb)
  have HTz := Lib.hid (hT.up HSy.out.sz)
  obtain ⟨op, rs, nm, kids, mn, mx, ra, rc, a, cc, ht, rfl, _⟩ := hT.open
  clear hT hb ht
  obtain ⟨k0, k1, k2, k3, k4, k5, f0, f1, f2, f3, f4, f5⟩ := bk6 HSz.out.bk
  go_wp2_with fail
  rw [nest6 wz]
  exact node_ret3 (P := 2) rfl HSz.out _ _ rfl (by rfl) HTz.out
end Go.Proofs.YtphbkompnddflaaGreatDoor

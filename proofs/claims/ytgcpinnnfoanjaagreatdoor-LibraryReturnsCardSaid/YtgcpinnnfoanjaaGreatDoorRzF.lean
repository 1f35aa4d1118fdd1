/-
  Joined: PatYa, PatYb, PatYc, PatYe, PatYg, PatYh.
-/
import Derived.Test.YtgcpinnnfoanjaaGreatDoorRzE
import Derived.Shelf.Strings.Search1
import Derived.Laws.CopyOwn
import Derived.Test.YtgcpinnnfoanjaaGreatDoorRzD
/-
  The parser: an escape, the name of a capture, the bytes that stand for themselves.
-/
namespace Go.Proofs.YtgcpinnnfoanjaaGreatDoor
open Go.RowKit

/-- The length of the name ahead of a colon. -/
def capN (l : List UInt8) : Nat := if 0 < nlen l ∧ Asc.at_ l (nlen l) = 58 then nlen l else 0
theorem capN_no (l : List UInt8) (h : ¬ (0 < nlen l ∧ Asc.at_ l (nlen l) = 58)) : capN l = 0 := if_neg h
theorem capN_yes (l : List UInt8) (h : 0 < nlen l) (h2 : Asc.at_ l (nlen l) = 58) : capN l = nlen l := if_pos ⟨h, h2⟩
set_option maxHeartbeats 4000000 in
set_option maxRecDepth 1000000 in
theorem capt_any (l : List UInt8) (w : World) (hk : Kinds w) (hml : l.length ≤ 9223372036854775807) :
    Calls Tryz.prog 144 #[.string ⟨l.toArray⟩] w fun e w' => e = .returned (.int .i64 (capN l)) ∧ w = w' := by
  have HN := Lib.hid (nlen_any l w hk hml)
  obtain ⟨n, hn⟩ : ∃ n, nlen l = n := ⟨_, rfl⟩
  obtain ⟨R, hR⟩ : ∃ R, capN l = R := ⟨_, rfl⟩
  have h0 : ¬ (0 < n ∧ Asc.at_ l n = 58) → 0 = R := fun h => by rw [← hR, capN_no l (by rw [hn]; exact h)]
  have h1 : 0 < n → Asc.at_ l n = 58 → n = R := fun h h2 => by rw [← hR, capN_yes l (by rw [hn]; exact h) (by rw [hn]; exact h2), hn]
  rw [hn] at HN
  rw [hR]
  have H0 := Lib.hid h0
  have H1 := Lib.hid h1
  clear hn hR h0 h1 hk
  rcases Nat.eq_zero_or_pos n with rfl | hpos
  · have HZ := Lib.hid (H0.out (by omega))
    go_enter Tryz.func144, Tryz.ntmps144
    go_wp2_with (go_at_call 113; refine HN.out.mono ?_; rintro e w' ⟨rfl, rfl⟩)
    go_ret
    exact ⟨ret_int (by rw [← HZ.out]; rfl), rfl⟩
  · have z0 : decide ((0 : Int) < (n : Int)) = true := decide_eq_true (by omega)
    have y0 : decide (0 < n) = true := decide_eq_true hpos
    by_cases hlt : n < l.length
    · have z1 : decide ((n : Int) < (l.length : Int)) = true := decide_eq_true (by omega)
      have y1 : decide (n < l.length) = true := decide_eq_true hlt
      have i1 : (n : Int) < (l.length : Int) := by omega
      have i2 : (0 : Int) ≤ (n : Int) := by omega
      obtain ⟨c, ⟨_, hx⟩, hc, hb⟩ := byte_at l n hlt
      have hc' : Asc.at_ l n = c := by rw [Asc.at_of hlt, hc]
      by_cases h58 : c = 58
      · have HZ := Lib.hid (H1.out hpos (by rw [hc', h58]))
        subst h58
        clear hc hc'
        go_enter Tryz.func144, Tryz.ntmps144
        go_wp2_with (go_at_call 113; refine HN.out.mono ?_; rintro e w' ⟨rfl, rfl⟩)
        go_ret
        exact ⟨ret_int (by rw [← HZ.out]), rfl⟩
      · have z2 : ((c : Int) == 58) = false := by rw [beq_eq_false_iff_ne]; omega
        have HZ := Lib.hid (H0.out (fun h => h58 (hc'.symm.trans h.2)))
        clear hc hc' h58
        go_enter Tryz.func144, Tryz.ntmps144
        go_wp2_with (go_at_call 113; refine HN.out.mono ?_; rintro e w' ⟨rfl, rfl⟩)
        go_ret
        exact ⟨ret_int (by rw [← HZ.out]; rfl), rfl⟩
    · have z1 : decide ((n : Int) < (l.length : Int)) = false := decide_eq_false (by omega)
      have y1 : decide (n < l.length) = false := decide_eq_false hlt
      have HZ := Lib.hid (H0.out (fun h => hlt (Asc.at_lt (by omega))))
      clear hlt
      go_enter Tryz.func144, Tryz.ntmps144
      go_wp2_with (go_at_call 113; refine HN.out.mono ?_; rintro e w' ⟨rfl, rfl⟩)
      go_ret
      exact ⟨ret_int (by rw [← HZ.out]; rfl), rfl⟩

set_option maxHeartbeats 4000000 in
set_option maxRecDepth 1000000 in
theorem printable_yes (c : Nat) (w : World) (h1 : 32 ≤ c) (h2 : c ≤ 126) : Calls Tryz.prog 130 #[.int .u8 (c : Int)] w fun e w' => e = .returned (.bool true) ∧ w = w' := by
  have z1 : decide ((32 : Int) ≤ (c : Int)) = true := decide_eq_true (by omega)
  have y1 : decide (32 ≤ c) = true := decide_eq_true h1
  have z2 : decide ((c : Int) ≤ 126) = true := decide_eq_true (by omega)
  have y2 : decide (c ≤ 126) = true := decide_eq_true h2
  go_enter Tryz.func130, Tryz.ntmps130
  go_wp2_with fail
  go_ret
  exact ⟨rfl, rfl⟩

set_option maxHeartbeats 4000000 in
set_option maxRecDepth 1000000 in
theorem slite_any (s : ByteArray) (c : Int) (w : World) : Calls Tryz.prog 95 #[.string s, .int .u8 c] w fun e w' => e = .returned (.int .i64 (Lib.indexByte s.data.toList c.toNat.toUInt8)) ∧ w' = w := by
  go_enter Tryz.func95, Tryz.ntmps95
  go_wp2
  rw [run_callFunc_extern Tryz.func118 (by kernel_rfl) (by kernel_rfl) (by kernel_rfl) (e := Extern.BytealgIndexByte.indexByte) (by kernel_rfl), Lib.run_indexByteString]
  simp only [Result.andThen]
  rw [Oper.upon_value]
  go_wp2
  go_ret
  exact ⟨rfl, rfl⟩
set_option maxHeartbeats 4000000 in
set_option maxRecDepth 1000000 in
theorem ibyte_any (s : ByteArray) (c : Int) (w : World) : Calls Tryz.prog 131 #[.string s, .int .u8 c] w fun e w' => e = .returned (.int .i64 (Lib.indexByte s.data.toList c.toNat.toUInt8)) ∧ w' = w := by
  go_enter Tryz.func131, Tryz.ntmps131
  go_wp2_with (go_at_call 95; refine (slite_any _ _ _).mono ?_; rintro e w' ⟨rfl, rfl⟩)
  go_ret
  exact ⟨rfl, rfl⟩
/-- The bytes that do not stand for themselves. -/
def spec : List UInt8 := [40, 41, 91, 93, 123, 125, 42, 43, 63, 124, 46, 94, 36, 92]
theorem special_no (c : UInt8) (w : World) (h : c ∉ spec) : Calls Tryz.prog 131 #[.string ⟨#[40, 41, 91, 93, 123, 125, 42, 43, 63, 124, 46, 94, 36, 92]⟩, .int .u8 (c.toNat : Int)] w fun e w' => e = .returned (.int .i64 (-1)) ∧ w' = w := by
  refine (ibyte_any _ _ w).mono ?_
  rintro e w' ⟨rfl, rfl⟩
  refine ⟨?_, rfl⟩
  show Ending.returned (.int .i64 (Lib.indexByte spec _)) = _
  rw [u8_of, Asc.indexByte_pos, if_neg (Asc.pos_none fun j hj => fun e => h (by rw [← e]; exact List.getElem_mem hj))]

/-- A set and two plain results. -/
theorem ret_set3 {fn : Func} {p t u : Tmp} (hfn : fn.results = #[.cell p 160, .tmp t, .tmp u]) {w : World} {f : Nat → Bool} {g : Nat} {ty : TypeId} (hg : w.heap[g]? = some (.cells (setA f) ty (0, 0))) {tmps : Array Value} {df : _} (hdf : df = []) (hp : tmps.getD p undef = .pointer (some ⟨g, 0, none⟩)) {post : Ending → World → Prop}
    (h : post (.returned (.tuple #[.agg (setA f), tmps.getD t undef, tmps.getD u undef])) w) : bodyPost Tryz.prog fn post Exit.ret { tmps := tmps, defers := df } w := by
  have hp' : tmps[p]?.getD undef = .pointer (some ⟨g, 0, none⟩) := by simpa using hp
  have hl := run_loadVar_row (P := Tryz.prog) w g ty 160 (setA f) (0, 0) _ hg undS rfl (by rw [setA_size]; exact (zero_of_info infoS).2)
  exact bodyPost_ret (by simp [results, hfn, hp', asAddr, hl]) hdf h
theorem put_set2 {W : World} {g : Nat} {f : Nat → Bool} {t : TypeId} (hg : W.heap[g]? = some (.cells (setA f) t (0, 0))) (f' : Nat → Bool) : ∃ W', (storeCells ⟨g, 0, none⟩ (setA f').toList).run Tryz.prog W = .ok () W' ∧ W'.heap[g]? = some (.cells (setA f') t (0, 0)) ∧ Below g W W' ∧ (storeCells ⟨g, 0, none⟩ (setA f').toList).run Tryz.prog W' = .ok () W' := by
  have h1 := setRow_heap W g _ (setA f') t (0, 0) hg
  refine ⟨_, put_set hg f', h1, below_setRow (Below.refl _ W) (Nat.le_refl _) _, ?_⟩
  have := put_set h1 f'
  rwa [setRow_self _ _ _ _ _ h1] at this
theorem put_self {W : World} {g : Nat} {f : Nat → Bool} {t : TypeId} (hg : W.heap[g]? = some (.cells (setA f) t (0, 0))) : (storeCells ⟨g, 0, none⟩ (setA f).toList).run Tryz.prog W = .ok () W := by
  have := put_set hg f
  rwa [setRow_self _ _ _ _ _ hg] at this
set_option maxHeartbeats 8000000 in
set_option maxRecDepth 1000000 in
theorem escape_d (b : Nat) (l : List UInt8) (at_ : Nat) (w : World) (h : PS b l at_ w) (hc : Asc.at_ l at_ = 100) : Calls Tryz.prog 129 #[.pointer (some ⟨b, 0, none⟩)] w fun r w' => r = .returned (.tuple #[.agg (setA Asc.isDigit), .int .u8 100, .bool false]) ∧ PQ b l (at_ + 1) w w' := by
  have hv := (zero_of_info infoS).1
  have hl : at_ < l.length := Asc.at_lt (by omega)
  have hl2 := h.len
  have hw : IntKind.i64.wrap ((at_ : Int) + 1) = (at_ : Int) + 1 := IntWalk.i64_in _ (by omega)
  have hbb := h.st.lt
  have HL := Lib.hid hl
  have H := Lib.hid h
  have HC := Lib.hid hc
  clear h hc hl
  go_enter Tryz.func129, Tryz.ntmps129
  go_wp2_with fail
  rw [← setA_false]
  have HQ0 := Lib.hid ((PQ.refl H.out).on (al_below w (.cells (setA (fun _ => false)) 160)))
  refine (pnext_ok b l at_ _ HQ0.out.ps 100 HC.out (by omega)).mono ?_
  rintro e w1 ⟨rfl, hq⟩
  have HQ1 := Lib.hid (HQ0.out.trans hq)
  have HB1 := Lib.hid ((hq.ap.block (k := w.heap.size) (by omega) (by simp)).trans (heap_alloc_new w _))
  clear hq HQ0
  go_wp2_with fail
  refine (where_digit w1 HQ1.out.ps.kd).mono ?_
  rintro e w2 ⟨rfl, hb2⟩
  have HB2 := Lib.hid ((hb2.block _ (Array.getElem?_eq_some_iff.1 HB1.out).1).trans HB1.out)
  have HQ2 := Lib.hid (HQ1.out.on hb2)
  clear hb2 HQ1 HB1
  obtain ⟨w3, e3, h3, hb3, e3'⟩ := put_set2 HB2.out Asc.isDigit
  have HQ3 := Lib.hid (HQ2.out.far (hb3.mono (Nat.le_refl _)) hbb)
  have HB3 := Lib.hid h3
  have c1 := HQ3.out.ps.c1
  have f1 := HQ3.out.ps.st.fz 1
  clear h3 hb3 HQ2 HB2
  go_wp2_with fail
  have h4 : (w3.setCell ⟨b, 1, none⟩ (.int .i64 ((at_ : Int) + 1))).heap[w.heap.size]? = _ := (Below.heap_setCell _ _ _ w.heap.size (by simp only; omega)).trans HB3.out
  have e4 := put_self h4
  refine wp_load_set _ rfl w.heap.size rfl _ _ h4 ?_
  go_wp2_with fail
  exact ret_set3 rfl h4 rfl rfl ⟨rfl, HQ3.out.trans (HQ3.out.ps.to (at_ + 1) HL.out)⟩
end Go.Proofs.YtgcpinnnfoanjaaGreatDoor
/-
  The parser: atoms.
-/
namespace Go.Proofs.YtgcpinnnfoanjaaGreatDoor
open Go.RowKit

/-- A node that the parser has read: all its blocks are new, and the parser stands at j. -/
def PN (b : Nat) (l : List UInt8) (t : NT) (j : Nat) (w : World) (e : Ending) (w' : World) : Prop := ∃ v, e = .returned v ∧ NG (fun k => w.heap.size ≤ k) w' t v ∧ PQ b l j w w'
/-- What a function of the parser reads from i on. -/
def RdC (fn : Nat) (b : Nat) (l : List UInt8) (i : Nat) (t : NT) (j : Nat) : Prop := ∀ W, PS b l i W → Calls Tryz.prog fn #[.pointer (some ⟨b, 0, none⟩)] W (PN b l t j W)
/-- Within a function whose result lies in a block of its own. -/
structure PR (b : Nat) (l : List UInt8) (i : Nat) (w W : World) : Prop where
  pq : PQ b l i w W
  bk : BK w.heap.size 6 (nE 0 none 0 0 [] none 0 0 0 0) W
  hb : b < w.heap.size
theorem PR.start {b : Nat} {l : List UInt8} {i : Nat} {w : World} (h : PS b l i w) : PR b l i w (w.alloc (.cells #[.int .i64 0, .slice none 0 0, .string ⟨#[]⟩, .slice none 0 0, .int .i64 0, .int .i64 0] 38)) := ⟨(PQ.refl h).on (al_below w _), nE_new w 0 none 0 0 [] none 0 0 0 0, h.st.lt⟩
theorem PR.go {b : Nat} {l : List UInt8} {i j : Nat} {w W W' : World} (h : PR b l i w W) (k : PQ b l j W W') : PR b l j w W' := ⟨h.pq.trans k, h.bk.go k.ap (Nat.ne_of_gt h.hb), h.hb⟩
theorem PR.sz {b : Nat} {l : List UInt8} {i : Nat} {w W : World} (h : PR b l i w W) : w.heap.size < W.heap.size := h.bk.lt
theorem PR.far {b : Nat} {l : List UInt8} {i : Nat} {w W W' : World} (h : PR b l i w W) (k : Below (w.heap.size + 1) W W') : PR b l i w W' := ⟨h.pq.far (k.mono (Nat.le_succ _)) h.hb, h.bk.on k (Nat.lt_succ_self _), h.hb⟩
theorem PR.on {b : Nat} {l : List UInt8} {i : Nat} {w W W' : World} (h : PR b l i w W) (k : Below W.heap.size W W') : PR b l i w W' := h.far (k.mono h.sz)
theorem PR.ps {b : Nat} {l : List UInt8} {i : Nat} {w W : World} (h : PR b l i w W) : PS b l i W := h.pq.ps
theorem node_ret3 {fn : Func} {P : Tmp} (hfn : fn.results = #[.cell P 38]) {w W : World} {b j : Nat} {l : List UInt8} (hS : PR b l j w W) (tmps : Array Value) (df : _) (hdf : df = []) (hp : tmps.getD P undef = .pointer (some ⟨w.heap.size, 0, none⟩)) {v0 v1 v2 v3 v4 v5 : Value} {t : NT}
    (hT : NG (fun k => w.heap.size < k) W t (.agg #[v0, v1, v2, v3, v4, v5])) :
    bodyPost Tryz.prog fn (PN b l t j w) Exit.ret { tmps := tmps, defers := df } (setL W w.heap.size [v0, v1, v2, v3, v4, v5] 0) := by
  have hb := setL_below (B := w.heap.size) (b := w.heap.size) (Nat.le_refl _) [v0, v1, v2, v3, v4, v5] W 0
  exact item_ret hfn hS.bk hdf hp ⟨_, rfl, NG.go ⟨hb.size, fun j hj _ => ⟨Nat.le_of_lt hj, setL_heap _ (Nat.ne_of_gt hj) _ _⟩⟩ _ _ hT, hS.pq.far hb hS.hb⟩
theorem NG.up {W W' : World} {B : Nat} {t : NT} {v : Value} (h : NG (fun k => W.heap.size ≤ k) W' t v) (hB : B < W.heap.size) : NG (fun k => B < k) W' t v := NG.go ⟨Nat.le_refl _, fun _ hk _ => ⟨Nat.lt_of_lt_of_le hB hk, rfl⟩⟩ _ _ h

set_option maxHeartbeats 1000000 in
set_option maxRecDepth 1000000 in
theorem atom_plain (b : Nat) (l : List UInt8) (i : Nat) (c : UInt8) (hc : Asc.at_ l i = c.toNat) (hs : c ∉ spec) (hc1 : 32 ≤ c.toNat) (hc2 : c.toNat ≤ 126) : RdC 110 b l i (.node 1 (rngs (spanF c.toNat (c.toNat + 1)) 0) [] [] 0 0) (i + 1) := by
  intro w h
  have hn : ∀ d : UInt8, d ∈ spec → Asc.at_ l i ≠ d.toNat := fun d hd e => hs (UInt8.toNat_inj.1 (e.symm.trans hc) ▸ hd)
  have HT : Hid (∀ d : Nat, (d = 40 ∨ d = 91 ∨ d = 46 ∨ d = 94 ∨ d = 36 ∨ d = 92) → ∀ W, PS b l i W → Calls Tryz.prog 74 #[.pointer (some ⟨b, 0, none⟩), .int .u8 (d : Int)] W fun r w' => r = .returned (.bool false) ∧ PQ b l i W w') := Lib.hid (fun d hd W hW => ptakes_no b l i W hW d (by
    rcases hd with rfl | rfl | rfl | rfl | rfl | rfl
    · exact hn 40 (by decide)
    · exact hn 91 (by decide)
    · exact hn 46 (by decide)
    · exact hn 94 (by decide)
    · exact hn 36 (by decide)
    · exact hn 92 (by decide)))
  have hl : i < l.length := Asc.at_lt (by omega)
  have hl2 := h.len
  have hw : IntKind.i64.wrap ((i : Int) + 1) = (i : Int) + 1 := IntWalk.i64_in _ (by omega)
  have HL := Lib.hid hl
  have HN := Lib.hid fun W (hW : PS b l i W) => pnext_ok b l i W hW c.toNat hc (by omega)
  have HPR := Lib.hid fun W => printable_yes c.toNat W hc1 hc2
  have HSP := Lib.hid fun W => special_no c W hs
  have HSN := Lib.hid fun W => span_any c c W
  obtain ⟨f, hf⟩ : ∃ f, spanF c.toNat (c.toNat + 1) = f := ⟨_, rfl⟩
  rw [hf] at HSN ⊢
  have HS := Lib.hid (PR.start h)
  clear h hl hn hc hs hc1 hc2 hf
  go_enter Tryz.func110, Tryz.ntmps110
  go_wp2_with fail
  refine (HN.out _ HS.out.ps).mono ?_
  rintro e w1 ⟨rfl, hq⟩
  have HS1 := Lib.hid (HS.out.go hq)
  clear hq HS
  go_wp2_with fail
  refine (HT.out 40 (by decide) _ HS1.out.ps).mono ?_
  rintro e w2 ⟨rfl, hq⟩
  have HS2 := Lib.hid (HS1.out.go hq)
  clear hq HS1
  go_wp2_with fail
  refine (HT.out 91 (by decide) _ HS2.out.ps).mono ?_
  rintro e w3 ⟨rfl, hq⟩
  have HS3 := Lib.hid (HS2.out.go hq)
  clear hq HS2
  go_wp2_with fail
  refine (HT.out 46 (by decide) _ HS3.out.ps).mono ?_
  rintro e w4 ⟨rfl, hq⟩
  have HS4 := Lib.hid (HS3.out.go hq)
  clear hq HS3
  go_wp2_with fail
  refine (HT.out 94 (by decide) _ HS4.out.ps).mono ?_
  rintro e w5 ⟨rfl, hq⟩
  have HS5 := Lib.hid (HS4.out.go hq)
  clear hq HS4
  go_wp2_with fail
  refine (HT.out 36 (by decide) _ HS5.out.ps).mono ?_
  rintro e w6 ⟨rfl, hq⟩
  have HS6 := Lib.hid (HS5.out.go hq)
  clear hq HS5
  go_wp2_with fail
  refine (HT.out 92 (by decide) _ HS6.out.ps).mono ?_
  rintro e w7 ⟨rfl, hq⟩
  have HS7 := Lib.hid (HS6.out.go hq)
  clear hq HS6
  have c1 := HS7.out.ps.c1
  have f1 := HS7.out.ps.st.fz 1
  go_wp2_with fail
  refine (HPR.out _).mono ?_
  rintro e wp ⟨rfl, rfl⟩
  go_wp2_with fail
  refine (HSP.out _).mono ?_
  rintro e wp ⟨rfl, rfl⟩
  go_wp2_with fail
  have HS8 := Lib.hid (HS7.out.go (HS7.out.ps.to (i + 1) HL.out))
  refine (HSN.out _).mono ?_
  rintro e w9 ⟨rfl, hb⟩
  have HS9 := Lib.hid (HS8.out.on hb)
  clear hb HS8
  clear HS7 c1 f1
  go_wp2_with fail
  refine (class_any _ _).mono ?_
  rintro e w10 ⟨v, rfl, hT, hb⟩
  have HS10 := Lib.hid (HS9.out.on hb)
  have HT10 := Lib.hid (hT.up HS9.out.sz)
  obtain ⟨op, rs, nm, kids, mn, mx, ra, rc, a, cc, ht, rfl, _⟩ := hT.open
  clear hT hb ht HS9
  obtain ⟨k0, k1, k2, k3, k4, k5, f0, f1, f2, f3, f4, f5⟩ := bk6 HS10.out.bk
  go_wp2_with fail
  rw [nest6 w10]
  exact node_ret3 (P := 2) rfl HS10.out _ _ rfl (by rfl) HT10.out
set_option maxHeartbeats 2000000 in
set_option maxRecDepth 1000000 in
theorem atom_digit (b : Nat) (l : List UInt8) (i : Nat) (hc : Asc.at_ l i = 92) (hd : Asc.at_ l (i + 1) = 100) : RdC 110 b l i (.node 1 (rngs Asc.isDigit 0) [] [] 0 0) (i + 2) := by
  intro w h
  have HT : Hid (∀ d : Nat, d ≠ 92 → ∀ W, PS b l i W → Calls Tryz.prog 74 #[.pointer (some ⟨b, 0, none⟩), .int .u8 (d : Int)] W fun r w' => r = .returned (.bool false) ∧ PQ b l i W w') := Lib.hid (fun d hd W hW => ptakes_no b l i W hW d (by rw [hc]; exact fun e => hd e.symm))
  have HY := Lib.hid fun W (hW : PS b l i W) => ptakes_yes b l i W hW 92 hc (by decide)
  have HN := Lib.hid fun W (hW : PS b l i W) => pnext_ok b l i W hW 92 hc (by decide)
  have HS := Lib.hid (PR.start h)
  have HE := Lib.hid fun W (hW : PS b l (i + 1) W) => escape_d b l (i + 1) W hW hd
  have hv := (zero_of_info infoS).1
  clear h hc hd
  go_enter Tryz.func110, Tryz.ntmps110
  go_wp2_with fail
  refine (HN.out _ HS.out.ps).mono ?_
  rintro e w1 ⟨rfl, hq⟩
  have HS1 := Lib.hid (HS.out.go hq)
  clear hq HS
  go_wp2_with fail
  refine (HT.out 40 (by decide) _ HS1.out.ps).mono ?_
  rintro e w2 ⟨rfl, hq⟩
  have HS2 := Lib.hid (HS1.out.go hq)
  clear hq HS1
  go_wp2_with fail
  refine (HT.out 91 (by decide) _ HS2.out.ps).mono ?_
  rintro e w3 ⟨rfl, hq⟩
  have HS3 := Lib.hid (HS2.out.go hq)
  clear hq HS2
  go_wp2_with fail
  refine (HT.out 46 (by decide) _ HS3.out.ps).mono ?_
  rintro e w4 ⟨rfl, hq⟩
  have HS4 := Lib.hid (HS3.out.go hq)
  clear hq HS3
  go_wp2_with fail
  refine (HT.out 94 (by decide) _ HS4.out.ps).mono ?_
  rintro e w5 ⟨rfl, hq⟩
  have HS5 := Lib.hid (HS4.out.go hq)
  clear hq HS4
  go_wp2_with fail
  refine (HT.out 36 (by decide) _ HS5.out.ps).mono ?_
  rintro e w6 ⟨rfl, hq⟩
  have HS6 := Lib.hid (HS5.out.go hq)
  clear hq HS5
  have c1 := HS6.out.ps.c1
  have f1 := HS6.out.ps.st.fz 1
  go_wp2_with fail
  clear c1 f1
  refine (HY.out _ HS6.out.ps).mono ?_
  rintro e wy ⟨rfl, hq⟩
  have HSy := Lib.hid (HS6.out.go hq)
  clear hq HS6
  go_wp2_with fail
  refine (HE.out _ HSy.out.ps).mono ?_
  rintro e we ⟨rfl, hq⟩
  have HSe := Lib.hid (HSy.out.go hq)
  clear hq HSy
  have hpn := put_new we (fun _ => false) Asc.isDigit 160
  rw [setA_false] at hpn
  go_wp2_with fail
  refine wp_load_set _ rfl we.heap.size rfl Asc.isDigit 160 (heap_alloc_new we _) ?_
  have HSf := Lib.hid (HSe.out.on (al_below we (.cells (setA Asc.isDigit) 160)))
  clear HSe
  go_wp2_with fail
  refine (class_any _ _).mono ?_
  rintro e wz ⟨v, rfl, hT, hb⟩
  have HSz := Lib.hid (HSf.out.on hb)
  have HTz := Lib.hid (hT.up HSf.out.sz)
  obtain ⟨op, rs, nm, kids, mn, mx, ra, rc, a, cc, ht, rfl, _⟩ := hT.open
  clear hT hb ht
  obtain ⟨k0, k1, k2, k3, k4, k5, f0, f1, f2, f3, f4, f5⟩ := bk6 HSz.out.bk
  go_wp2_with fail
  rw [nest6 wz]
  exact node_ret3 (P := 2) rfl HSz.out _ _ rfl (by rfl) HTz.out
set_option maxHeartbeats 2000000 in
set_option maxRecDepth 1000000 in
theorem atom_group (b : Nat) (l : List UInt8) (i : Nat) (t : NT) (j : Nat) (hc : Asc.at_ l i = 40) (hg : RdC 124 b l (i + 1) t j) : RdC 110 b l i t j := by
  intro w h
  have HT : Hid (∀ d : Nat, d ≠ 40 → ∀ W, PS b l i W → Calls Tryz.prog 74 #[.pointer (some ⟨b, 0, none⟩), .int .u8 (d : Int)] W fun r w' => r = .returned (.bool false) ∧ PQ b l i W w') := Lib.hid (fun d hd W hW => ptakes_no b l i W hW d (by rw [hc]; exact fun e => hd e.symm))
  have HY := Lib.hid fun W (hW : PS b l i W) => ptakes_yes b l i W hW 40 hc (by decide)
  have HN := Lib.hid fun W (hW : PS b l i W) => pnext_ok b l i W hW 40 hc (by decide)
  have HS := Lib.hid (PR.start h)
  have HG := Lib.hid hg
  clear h hc hg HT
  go_enter Tryz.func110, Tryz.ntmps110
  go_wp2_with fail
  refine (HN.out _ HS.out.ps).mono ?_
  rintro e w1 ⟨rfl, hq⟩
  have HS1 := Lib.hid (HS.out.go hq)
  clear hq HS
  go_wp2_with fail
  refine (HY.out _ HS1.out.ps).mono ?_
  rintro e wy ⟨rfl, hq⟩
  have HSy := Lib.hid (HS1.out.go hq)
  clear hq HS1
  go_wp2_with fail
  refine (HG.out _ HSy.out.ps).mono ?_
  rintro e wz ⟨v, rfl, hT, hb⟩
  have HSz := Lib.hid (HSy.out.go hb)
  have HTz := Lib.hid (hT.up HSy.out.sz)
  obtain ⟨op, rs, nm, kids, mn, mx, ra, rc, a, cc, ht, rfl, _⟩ := hT.open
  clear hT hb ht
  obtain ⟨k0, k1, k2, k3, k4, k5, f0, f1, f2, f3, f4, f5⟩ := bk6 HSz.out.bk
  go_wp2_with fail
  rw [nest6 wz]
  exact node_ret3 (P := 2) rfl HSz.out _ _ rfl (by rfl) HTz.out
end Go.Proofs.YtgcpinnnfoanjaaGreatDoor
/-
  The parser: an atom with what follows it.
-/
namespace Go.Proofs.YtgcpinnnfoanjaaGreatDoor
open Go.RowKit

theorem NG.pq {b B j : Nat} {l : List UInt8} {W W' : World} {t : NT} {v : Value} (h : NG (fun k => B < k) W t v) (k : PQ b l j W W') (hb : b ≤ B) : NG (fun k => B < k) W' t v := NG.go ⟨k.ap.1.size, fun _ hk hl => ⟨hk, k.ap.block (by omega) hl⟩⟩ _ _ h
theorem NG.low {B : Nat} {W W' : World} {t : NT} {v : Value} (h : NG (fun k => B < k) W t v) (k : Below W.heap.size W W') : NG (fun k => B < k) W' t v := NG.go ⟨k.size, fun _ hk hl => ⟨hk, k.block _ hl⟩⟩ _ _ h
theorem bkn {b : Nat} {W : World} {op : Int} {ra : Option Addr} {rn rc : Nat} {nm : List UInt8} {a : Option Addr} {n c : Nat} {mn mx : Int} (h : BK b 6 (nE op ra rn rc nm a n c mn mx) W) :
    W.cell? ⟨b, 0, none⟩ = some (.int .i64 op) ∧ W.cell? ⟨b, 1, none⟩ = some (.slice ra rn rc) ∧ W.cell? ⟨b, 2, none⟩ = some (.string ⟨nm.toArray⟩) ∧ W.cell? ⟨b, 3, none⟩ = some (.slice a n c) ∧ W.cell? ⟨b, 4, none⟩ = some (.int .i64 mn) ∧ W.cell? ⟨b, 5, none⟩ = some (.int .i64 mx) :=
  ⟨h.ev 0 (by omega), h.ev 1 (by omega), h.ev 2 (by omega), h.ev 3 (by omega), h.ev 4 (by omega), h.ev 5 (by omega)⟩
/-- Within a function that holds a node in a block of its own, besides its result's. -/
structure PA (b : Nat) (l : List UInt8) (i : Nat) (w : World) (q : Nat) (E : Nat → Value) (t : NT) (v : Value) (W : World) : Prop where
  pr : PR b l i w W
  bk : BK q 6 E W
  ng : NG (fun k => w.heap.size < k) W t v
  hq : w.heap.size < q
theorem PA.go {b : Nat} {l : List UInt8} {i j : Nat} {w : World} {q : Nat} {E : Nat → Value} {t : NT} {v : Value} {W W' : World} (h : PA b l i w q E t v W) (k : PQ b l j W W') : PA b l j w q E t v W' := ⟨h.pr.go k, h.bk.go k.ap (by have := h.pr.hb; have := h.hq; omega), h.ng.pq k (Nat.le_of_lt h.pr.hb), h.hq⟩
theorem PA.start {b : Nat} {l : List UInt8} {j : Nat} {w W : World} {t : NT} {op : Int} {ra : Option Addr} {rn rc : Nat} {nm : List UInt8} {a : Option Addr} {n c : Nat} {mn mx : Int} (h : PR b l j w W) (hT : NG (fun k => w.heap.size < k) W t (.agg #[.int .i64 op, .slice ra rn rc, .string ⟨nm.toArray⟩, .slice a n c, .int .i64 mn, .int .i64 mx])) :
    PA b l j w W.heap.size (nE op ra rn rc nm a n c mn mx) t (.agg #[.int .i64 op, .slice ra rn rc, .string ⟨nm.toArray⟩, .slice a n c, .int .i64 mn, .int .i64 mx]) (W.alloc (.cells #[.int .i64 op, .slice ra rn rc, .string ⟨nm.toArray⟩, .slice a n c, .int .i64 mn, .int .i64 mx] 38)) :=
  ⟨h.on (al_below W _), nE_new W op ra rn rc nm a n c mn mx, hT.low (al_below W _), h.sz⟩

set_option maxHeartbeats 2000000 in
set_option maxRecDepth 1000000 in
theorem rep_none (b : Nat) (l : List UInt8) (i : Nat) (t : NT) (j : Nat) (ha : RdC 110 b l i t j) (hn : ∀ d : Nat, (d = 42 ∨ d = 43 ∨ d = 63 ∨ d = 123) → Asc.at_ l j ≠ d) : RdC 88 b l i t j := by
  intro w h
  have HT : Hid (∀ d : Nat, (d = 42 ∨ d = 43 ∨ d = 63 ∨ d = 123) → ∀ W, PS b l j W → Calls Tryz.prog 74 #[.pointer (some ⟨b, 0, none⟩), .int .u8 (d : Int)] W fun r w' => r = .returned (.bool false) ∧ PQ b l j W w') := Lib.hid (fun d hd W hW => ptakes_no b l j W hW d (hn d hd))
  have HA := Lib.hid ha
  have HS := Lib.hid (PR.start h)
  clear h ha hn
  go_enter Tryz.func88, Tryz.ntmps88
  go_wp2_with fail
  refine (HA.out _ HS.out.ps).mono ?_
  rintro e w1 ⟨v, rfl, hT, hq⟩
  have HS1 := Lib.hid (HS.out.go hq)
  have HT1 := Lib.hid (hT.up HS.out.sz)
  obtain ⟨op, rs, nm, kids, mn, mx, ra, rc, a, cc, ht, rfl, _⟩ := hT.open
  have HP := Lib.hid (PA.start HS1.out HT1.out)
  clear hT hq ht HS HS1 HT1
  go_wp2_with fail
  refine (HT.out 42 (by decide) _ HP.out.pr.ps).mono ?_
  rintro e w2 ⟨rfl, hq⟩
  have HP2 := Lib.hid (HP.out.go hq)
  clear hq HP
  go_wp2_with fail
  refine (HT.out 43 (by decide) _ HP2.out.pr.ps).mono ?_
  rintro e w3 ⟨rfl, hq⟩
  have HP3 := Lib.hid (HP2.out.go hq)
  clear hq HP2
  go_wp2_with fail
  refine (HT.out 63 (by decide) _ HP3.out.pr.ps).mono ?_
  rintro e w4 ⟨rfl, hq⟩
  have HP4 := Lib.hid (HP3.out.go hq)
  clear hq HP3
  go_wp2_with fail
  refine (HT.out 123 (by decide) _ HP4.out.pr.ps).mono ?_
  rintro e w5 ⟨rfl, hq⟩
  have HP5 := Lib.hid (HP4.out.go hq)
  clear hq HP4
  obtain ⟨k0, k1, k2, k3, k4, k5, f0, f1, f2, f3, f4, f5⟩ := bk6 HP5.out.pr.bk
  obtain ⟨q0, q1, q2, q3, q4, q5⟩ := bkn HP5.out.bk
  obtain ⟨q, hq⟩ : ∃ q, w1.heap.size = q := ⟨_, rfl⟩
  rw [hq] at q0 q1 q2 q3 q4 q5 ⊢
  have hqw : q ≠ w.heap.size := by have := HP5.out.hq; omega
  go_wp2_with fail
  rw [nest6 w5]
  exact node_ret3 (P := 2) rfl HP5.out.pr _ _ rfl (by rfl) HP5.out.ng

set_option maxHeartbeats 2000000 in
set_option maxRecDepth 1000000 in
theorem rep_plus (b : Nat) (l : List UInt8) (i : Nat) (t : NT) (j : Nat) (ha : RdC 110 b l i t j) (hc : Asc.at_ l j = 43) : RdC 88 b l i (.node 4 [] [] [t] 1 (-1)) (j + 1) := by
  intro w h
  have HT := Lib.hid fun W (hW : PS b l j W) => ptakes_no b l j W hW 42 (by rw [hc]; decide)
  have HY := Lib.hid fun W (hW : PS b l j W) => ptakes_yes b l j W hW 43 hc (by decide)
  have HA := Lib.hid ha
  have HS := Lib.hid (PR.start h)
  clear h ha hc
  go_enter Tryz.func88, Tryz.ntmps88
  go_wp2_with fail
  refine (HA.out _ HS.out.ps).mono ?_
  rintro e w1 ⟨v, rfl, hT, hq⟩
  have HS1 := Lib.hid (HS.out.go hq)
  have HT1 := Lib.hid (hT.up HS.out.sz)
  obtain ⟨op, rs, nm, kids, mn, mx, ra, rc, a, cc, ht, rfl, _⟩ := hT.open
  have HP := Lib.hid (PA.start HS1.out HT1.out)
  clear hT hq ht HS HS1 HT1
  go_wp2_with fail
  refine (HT.out _ HP.out.pr.ps).mono ?_
  rintro e w2 ⟨rfl, hq⟩
  have HP2 := Lib.hid (HP.out.go hq)
  clear hq HP
  go_wp2_with fail
  refine (HY.out _ HP2.out.pr.ps).mono ?_
  rintro e w5 ⟨rfl, hq⟩
  have HP5 := Lib.hid (HP2.out.go hq)
  clear hq HP2
  obtain ⟨q0, q1, q2, q3, q4, q5⟩ := bkn HP5.out.bk
  obtain ⟨q, hq⟩ : ∃ q, w1.heap.size = q := ⟨_, rfl⟩
  rw [hq] at q0 q1 q2 q3 q4 q5 ⊢
  have hqw : q ≠ w.heap.size := by have := HP5.out.hq; omega
  have HR5 := Lib.hid (HP5.out.pr.on (al_below w5 (.cells #[.int .i64 op, .slice ra rs.length rc, .string ⟨nm.toArray⟩, .slice a kids.length cc, .int .i64 mn, .int .i64 mx] 38)))
  have HK : Hid (RW (fun k => w.heap.size < k) 6 (KR (fun k => w.heap.size < k) (w5.alloc (.cells #[.int .i64 op, .slice ra rs.length rc, .string ⟨nm.toArray⟩, .slice a kids.length cc, .int .i64 mn, .int .i64 mx] 38))) (w5.alloc (.cells #[.int .i64 op, .slice ra rs.length rc, .string ⟨nm.toArray⟩, .slice a kids.length cc, .int .i64 mn, .int .i64 mx] 38)) [t] (.slice (some ⟨w5.heap.size, 0, none⟩) 1 1)) :=
    Lib.hid ((OR.lit (B := w.heap.size + 1) w5 t [.int .i64 op, .slice ra rs.length rc, .string ⟨nm.toArray⟩, .slice a kids.length cc, .int .i64 mn, .int .i64 mx] HP5.out.pr.sz rfl (HP5.out.ng.low (al_below w5 _))).rw (fun _ hb => hb))
  obtain ⟨k0, k1, k2, k3, k4, k5, f0, f1, f2, f3, f4, f5⟩ := bk6 HR5.out.bk
  go_wp2_with fail
  rw [nest6]
  exact node_ret3 (P := 2) rfl HR5.out _ _ rfl (by rfl) (NG.node (rs := []) (kids := [t]) RW.nil HK.out 4 [] 1 (-1) (by simp))
end Go.Proofs.YtgcpinnnfoanjaaGreatDoor
/-
  The parser: a sequence.
-/
namespace Go.Proofs.YtgcpinnnfoanjaaGreatDoor
open Go.RowKit

set_option maxHeartbeats 2000000 in
set_option maxRecDepth 1000000 in
theorem group_named (b : Nat) (l : List UInt8) (i n : Nat) (t : NT) (j : Nat) (hn : capN (l.drop i) = n) (hn0 : 0 < n) (hn1 : i + n + 1 ≤ l.length) (hg : RdC 55 b l (i + n + 1) t j) (hj : Asc.at_ l j = 41) (s0 : UInt8) (sg : List UInt8) (hsg : Asc.seg l i (i + n) = s0 :: sg) : RdC 124 b l i (.node 5 [] (s0 :: sg) [t] 0 0) (j + 1) := by
  intro w h
  have HCP := Lib.hid fun W (hW : PS b l i W) => (capt_any (l.drop i) W hW.kd (by have := hW.len; rw [List.length_drop]; omega)).mono fun _ w' h => (⟨h.1, h.2.symm⟩ : _ ∧ w' = W)
  rw [hn] at HCP
  have HG := Lib.hid hg
  have HX := Lib.hid fun W (hW : PS b l j W) => pexpect_yes b l j W hW 41 hj (by decide)
  have hl2 := h.len
  have hile := h.le
  have HS := Lib.hid (PR.start h)
  have c0 := HS.out.ps.c0
  have c1 := HS.out.ps.c1
  have c2 := HS.out.ps.c2
  have f1 := HS.out.ps.st.fz 1
  have i0 : (0 : Int) ≤ (i : Int) := by omega
  have i1 : (i : Int) ≤ (l.length : Int) := by omega
  have i2 : ((i : Int) + (n : Int)) ≤ (l.length : Int) := by omega
  have i3 : (i : Int) ≤ (i : Int) + (n : Int) := by omega
  have w1 : IntKind.i64.wrap ((i : Int) + (n : Int)) = (i : Int) + (n : Int) := IntWalk.i64_in _ (by omega)
  have w2 : IntKind.i64.wrap ((n : Int) + 1) = (n : Int) + 1 := IntWalk.i64_in _ (by omega)
  have w3 : IntKind.i64.wrap ((i : Int) + ((n : Int) + 1)) = (i : Int) + ((n : Int) + 1) := IntWalk.i64_in _ (by omega)
  have z0 : decide ((0 : Int) < (n : Int)) = true := decide_eq_true (by omega)
  have y0 : decide (0 < n) = true := decide_eq_true hn0
  have HNM := Lib.hid (show (s0 :: sg).length ≤ 1000 by rw [← hsg, Asc.seg_length l (by omega)]; omega)
  have HSG := Lib.hid hsg
  clear h hg hj hn hsg
  go_enter Tryz.func124, Tryz.ntmps124
  go_wp2_with fail
  go_quiet (first | (go_at_call 144; simp only [ext_drop]; refine Calls.quiet_of_same (HCP.out _ (HS.out.ps.drewN _).ps)))
  have HS1 := Lib.hid (HS.out.go (HS.out.ps.drewN nq))
  go_wp2_with fail
  go_quiet (fail)
  have HS2 := Lib.hid (HS1.out.go (HS1.out.ps.drewN nq))
  have HS3 := Lib.hid (HS2.out.go (HS2.out.ps.to (i + n + 1) hn1))
  clear HS HS1 HS2
  go_wp2_with fail
  rw [← World.drewN_drewN, show ((i : Int) + ((n : Int) + 1)) = ((i + n + 1 : Nat) : Int) by omega]
  refine (HG.out _ HS3.out.ps).mono ?_
  rintro e wc ⟨v, rfl, hT, hq⟩
  have HS4 := Lib.hid (HS3.out.go hq)
  have HT4 := Lib.hid (hT.up HS3.out.sz)
  obtain ⟨op, rs, nm, kids, mn, mx, ra, rc, a, cc, ht, rfl, _⟩ := hT.open
  have HP := Lib.hid (PA.start HS4.out HT4.out)
  clear hT hq ht HS3 HS4 HT4
  go_wp2_with fail
  refine (HX.out _ HP.out.pr.ps).mono ?_
  rintro e w5 ⟨rfl, hq⟩
  have HP5 := Lib.hid (HP.out.go hq)
  clear hq HP
  rw [Asc.extract_seg, HSG.out]
  clear c0 c1 c2 f1
  obtain ⟨q0, q1, q2, q3, q4, q5⟩ := bkn HP5.out.bk
  obtain ⟨q, hq⟩ : ∃ q, wc.heap.size = q := ⟨_, rfl⟩
  rw [hq] at q0 q1 q2 q3 q4 q5 ⊢
  have hqw : q ≠ w.heap.size := by have := HP5.out.hq; omega
  have HR5 := Lib.hid (HP5.out.pr.on (al_below w5 (.cells #[.int .i64 op, .slice ra rs.length rc, .string ⟨nm.toArray⟩, .slice a kids.length cc, .int .i64 mn, .int .i64 mx] 38)))
  have HK : Hid (RW (fun k => w.heap.size < k) 6 (KR (fun k => w.heap.size < k) (w5.alloc (.cells #[.int .i64 op, .slice ra rs.length rc, .string ⟨nm.toArray⟩, .slice a kids.length cc, .int .i64 mn, .int .i64 mx] 38))) (w5.alloc (.cells #[.int .i64 op, .slice ra rs.length rc, .string ⟨nm.toArray⟩, .slice a kids.length cc, .int .i64 mn, .int .i64 mx] 38)) [t] (.slice (some ⟨w5.heap.size, 0, none⟩) 1 1)) :=
    Lib.hid ((OR.lit (B := w.heap.size + 1) w5 t [.int .i64 op, .slice ra rs.length rc, .string ⟨nm.toArray⟩, .slice a kids.length cc, .int .i64 mn, .int .i64 mx] HP5.out.pr.sz rfl (HP5.out.ng.low (al_below w5 _))).rw (fun _ hb => hb))
  obtain ⟨k0, k1, k2, k3, k4, k5, f0, f1, f2, f3, f4, f5⟩ := bk6 HR5.out.bk
  go_wp2_with fail
  rw [nest6]
  exact node_ret3 (P := 2) rfl HR5.out _ _ rfl (by rfl) (NG.node (rs := []) (kids := [t]) RW.nil HK.out 5 (s0 :: sg) 0 0 HNM.out)
end Go.Proofs.YtgcpinnnfoanjaaGreatDoor
namespace Go.Proofs.YtgcpinnnfoanjaaGreatDoor
open Go.RowKit

/-- Within concat: the nodes read so far. -/
structure SL (b : Nat) (l : List UInt8) (i : Nat) (w : World) (kids : List NT) (v : Value) (W : World) : Prop where
  pr : PR b l i w W
  row : OR (w.heap.size + 1) 38 6 (KR (FF (fun k => w.heap.size < k) v) W) W kids v
section
variable {b i j : Nat} {l : List UInt8} {w W W' : World} {kids : List NT} {v x : Value} {t : NT}
theorem SL.start (h : PR b l i w W) : SL b l i w [] (.slice none 0 0) W := ⟨h, OR.nil⟩
theorem SL.go (h : SL b l i w kids v W) (k : PQ b l j W W') : SL b l j w kids v W' :=
  ⟨h.pr.go k, h.row.keep (fun m h1 h2 => k.ap.block (by have := h.pr.hb; omega) h2) (fun _ _ hx => KR.go ⟨k.ap.1.size, fun m hm hl => ⟨hm, k.ap.block (by have := h.pr.hb; have := hm.1; omega) hl⟩⟩ _ _ hx)⟩
theorem SL.new (h : SL b l i w kids v W) (hT : NG (fun k => W.heap.size ≤ k) W' t x) : NG (FF (fun k => w.heap.size < k) v) W' t x :=
  NG.go ⟨Nat.le_refl _, fun k hk _ => ⟨⟨Nat.lt_of_lt_of_le h.pr.sz hk, fun e => by have := (h.row.lt e).2; omega⟩, rfl⟩⟩ _ _ hT
theorem SL.push {o : Obj} {g' cap H : Nat} {W5 : World} (h : SL b l i w kids v W) (cs : List Value) (hown : W.ownsRow (w.heap.size + 1) 38 6 v kids.length cs)
    (hpush : ∀ (R' : NT → List Value → Prop) (W' : World) (x : NT) (us : List Value) (v' : Value), (∀ x us, KR (FF (fun k => w.heap.size < k) v) W x us → R' x us) → us.length = 6 → R' x us → kids.length + 1 ≤ 1000000 → W'.ownsRow (w.heap.size + 1) 38 6 v' (kids.length + 1) (cs ++ us) → OR (w.heap.size + 1) 38 6 R' W' (kids ++ [x]) v')
    (hgr : (W.alloc o).grownBy W5 v.ownBlock) (hat : v.ownBlock = some g' ∨ g' = H) (hH : H = (W.alloc o).heap.size) (us : List Value) (hu : us.length = 6) (hx : KR (FF (fun k => w.heap.size < k) v) W t us) (hl : kids.length + 1 ≤ 1000000)
    (ho : W5.ownsRow (w.heap.size + 1) 38 6 (.slice (some ⟨g', 0, none⟩) (kids.length + 1) cap) (kids.length + 1) (cs ++ us)) : SL b l i w (kids ++ [t]) (.slice (some ⟨g', 0, none⟩) (kids.length + 1) cap) W5 := by
  have hB := push_below hgr hown h.pr.sz
  have hst := push_stay (G := fun k => w.heap.size < k) (n := kids.length + 1) (cap := cap) hgr (hat.imp id (fun e => by rw [e, hH]; simp))
  exact ⟨h.pr.far hB, hpush _ _ t us _ (fun _ _ h => KR.go hst _ _ h) hu (KR.go hst _ _ hx) hl ho⟩
theorem SL.rows (h : SL b l i w kids v W) : RW (fun k => w.heap.size + 1 ≤ k) 6 (KR (fun k => w.heap.size + 1 ≤ k) W) W kids v :=
  (h.row.rw (F := fun k => w.heap.size + 1 ≤ k) (fun _ h => h)).go ⟨Nat.le_refl _, fun _ hk _ => ⟨hk, rfl⟩⟩ (fun _ _ h => KR.go ⟨Nat.le_refl _, fun _ hk _ => ⟨hk.1, rfl⟩⟩ _ _ h)
end
/-- What stands one after the other from i to j. -/
inductive Chain (b : Nat) (l : List UInt8) : Nat → List NT → Nat → Prop
  | nil (j : Nat) : Chain b l j [] j
  | cons (i k j v : Nat) (t : NT) (ts : List NT) (hv : Asc.at_ l i = v) (h1 : v < 256) (h2 : v ≠ 124) (h3 : v ≠ 41) (hr : RdC 88 b l i t k) (hc : Chain b l k ts j) : Chain b l i (t :: ts) j
def slLen : Value → Nat
  | .slice _ n _ => n
  | _ => 0

set_option maxHeartbeats 4000000 in
set_option maxRecDepth 1000000 in
theorem concat_any (b : Nat) (l : List UInt8) (i : Nat) (ts : List NT) (j : Nat) (hch : Chain b l i ts j) (hstop : l.length ≤ j ∨ Asc.at_ l j = 124 ∨ Asc.at_ l j = 41) (hts : ts.length ≤ 1000) : RdC 73 b l i (joinT 2 ts) j := by
  intro w h
  have HC := Lib.hid hch
  have HST := Lib.hid hstop
  have HS := Lib.hid (SL.start (PR.start h))
  clear h hch hstop
  obtain ⟨i0, hi, hz0, hz1, hz2⟩ := info_parts infoN
  go_enter Tryz.func73, Tryz.ntmps73
  go_wp2_with fail
  go_loopw [3, 4, 5] (fun v _ _ wr => ∃ (k : Nat) (kids rest : List NT), Hid (kids ++ rest = ts) ∧ kids.length + rest.length ≤ 1000 ∧ slLen v = kids.length ∧ Hid (Chain b l k rest j) ∧ Hid (SL b l k w kids v wr)) (fun v _ _ _ => 1001 - slLen v)
  case atStart => exact ⟨i, [], ts, Lib.hid rfl, by simpa using hts, rfl, HC, HS⟩
  case round =>
    obtain ⟨k, kids, rest, HE, hlen, hsl, HCH, HSL⟩ := hrel
    clear HS HC hts
    have hrow := HSL.out.rows
    obtain ⟨ra, rc, rfl, _⟩ := hrow
    clear hsl
    cases rest with
    | nil =>
      have HKT : Hid (kids = ts) := Lib.hid (by simpa using HE.out)
      cases HCH.out
      rcases HST.out with hst | hst | hst
      ·
        have HN := Lib.hid fun W (hW : PS b l j W) => pnext_end b l j W hW hst
        clear hst
        go_wp2_with fail
        refine (HN.out _ HSL.out.pr.ps).mono ?_
        rintro e w1 ⟨rfl, hq⟩
        have HS1 := Lib.hid (HSL.out.go hq)
        clear hq HSL
        go_wp2_with fail
        refine (join_any 2 kids _ _ (w.heap.size + 1) HS1.out.rows).mono ?_
        rintro e w3 ⟨x, rfl, hT, hb⟩
        have HS3 := Lib.hid (HS1.out.pr.on hb)
        have HT3 := Lib.hid (HKT.out ▸ hT)
        obtain ⟨op, rs, nm, kk, mn, mx, ra2, rc2, a, cc, ht, rfl, _⟩ := hT.open
        clear hT hb ht HS1
        obtain ⟨k0, k1, k2, k3, k4, k5, f0, f1, f2, f3, f4, f5⟩ := bk6 HS3.out.bk
        go_wp2_with fail
        rw [nest6 w3]
        exact node_ret3 (P := 2) rfl HS3.out _ _ rfl (by rfl) HT3.out
      ·
        have HN := Lib.hid fun W (hW : PS b l j W) => pnext_ok b l j W hW 124 hst (by decide)
        clear hst
        go_wp2_with fail
        refine (HN.out _ HSL.out.pr.ps).mono ?_
        rintro e w1 ⟨rfl, hq⟩
        have HS1 := Lib.hid (HSL.out.go hq)
        clear hq HSL
        go_wp2_with fail
        refine (join_any 2 kids _ _ (w.heap.size + 1) HS1.out.rows).mono ?_
        rintro e w3 ⟨x, rfl, hT, hb⟩
        have HS3 := Lib.hid (HS1.out.pr.on hb)
        have HT3 := Lib.hid (HKT.out ▸ hT)
        obtain ⟨op, rs, nm, kk, mn, mx, ra2, rc2, a, cc, ht, rfl, _⟩ := hT.open
        clear hT hb ht HS1
        obtain ⟨k0, k1, k2, k3, k4, k5, f0, f1, f2, f3, f4, f5⟩ := bk6 HS3.out.bk
        go_wp2_with fail
        rw [nest6 w3]
        exact node_ret3 (P := 2) rfl HS3.out _ _ rfl (by rfl) HT3.out
      ·
        have HN := Lib.hid fun W (hW : PS b l j W) => pnext_ok b l j W hW 41 hst (by decide)
        clear hst
        go_wp2_with fail
        refine (HN.out _ HSL.out.pr.ps).mono ?_
        rintro e w1 ⟨rfl, hq⟩
        have HS1 := Lib.hid (HSL.out.go hq)
        clear hq HSL
        go_wp2_with fail
        refine (join_any 2 kids _ _ (w.heap.size + 1) HS1.out.rows).mono ?_
        rintro e w3 ⟨x, rfl, hT, hb⟩
        have HS3 := Lib.hid (HS1.out.pr.on hb)
        have HT3 := Lib.hid (HKT.out ▸ hT)
        obtain ⟨op, rs, nm, kk, mn, mx, ra2, rc2, a, cc, ht, rfl, _⟩ := hT.open
        clear hT hb ht HS1
        obtain ⟨k0, k1, k2, k3, k4, k5, f0, f1, f2, f3, f4, f5⟩ := bk6 HS3.out.bk
        go_wp2_with fail
        rw [nest6 w3]
        exact node_ret3 (P := 2) rfl HS3.out _ _ rfl (by rfl) HT3.out
    | cons t rest =>
      cases HCH.out with
      | cons _ k2 _ vv _ _ hv h1 h2 h3 hr hc =>
      have HR := Lib.hid hr
      have HC2 := Lib.hid hc
      have HN := Lib.hid fun W (hW : PS b l k W) => pnext_ok b l k W hW vv hv h1
      have z1 : ((vv : Int) == 124) = false := by rw [beq_eq_false_iff_ne]; omega
      have z2 : ((vv : Int) == 41) = false := by rw [beq_eq_false_iff_ne]; omega
      clear hr hc hv h2 h3
      go_wp2_with fail
      refine (HN.out _ HSL.out.pr.ps).mono ?_
      rintro e w1 ⟨rfl, hq⟩
      have HS1 := Lib.hid (HSL.out.go hq)
      clear hq HSL
      go_wp2_with fail
      refine (HR.out _ HS1.out.pr.ps).mono ?_
      rintro e w2 ⟨x, rfl, hT, hq⟩
      have HS2 := Lib.hid (HS1.out.go hq)
      have HT2 := Lib.hid (HS1.out.new hT)
      obtain ⟨op, rs, nm, kk, mn, mx, ra2, rc2, a, cc, ht, rfl, _⟩ := hT.open
      clear hq hT ht HS1
      obtain ⟨cs, hown, hpush⟩ := HS2.out.row.cells
      have HPU := Lib.hid hpush
      have HSZ := Lib.hid HS2.out.pr.sz
      clear hpush
      go_wp2_with (at_builtin; refine wpList_append_lies _ rfl _ _ 36 rfl (w.heap.size + 1) 38 i0 (.agg #[.int .i64 0, .slice none 0 0, .string ⟨#[]⟩, .slice none 0 0, .int .i64 0, .int .i64 0]) 6 88 Tryz.underlying36 hi hz0 hz1 hz2 rfl (by decide) _ kids.length cs rfl (hown.alloc _) ⟨w2.heap.size, 0, none⟩ 1 1 [.int .i64 op, .slice ra2 rs.length rc2, .string ⟨nm.toArray⟩, .slice a kk.length cc, .int .i64 mn, .int .i64 mx] rfl rfl (World.news_of_block (heap_alloc_new w2 _)) (node_one _ _ _ _ _ _ _ _ _ _) (by omega) (by unfold maxLen; omega) (by omega) (Nat.le_trans HSZ.out (by simp)) _ rfl ?_; intro g6 cap6 w6 hown6 hgr6 hat6 hlt6; have HS6 := Lib.hid (HS2.out.push cs hown HPU.out hgr6 hat6 rfl _ rfl HT2.out (by omega) hown6); clear hown6 hgr6 hat6 hlt6 hown)
      refine ⟨⟨k2, kids ++ [t], rest, Lib.hid (by rw [List.append_assoc, List.singleton_append]; exact HE.out), by simp; simp at hlen; omega, by simp [slLen], HC2, HS6⟩, by simp [slLen]; simp at hlen; omega⟩
end Go.Proofs.YtgcpinnnfoanjaaGreatDoor
/-
  Parse, where it says yes.
-/
namespace Go.Proofs.YtgcpinnnfoanjaaGreatDoor
open Go.RowKit

theorem SL.lit {b i : Nat} {l : List UInt8} {w W : World} {t : NT} (h : PR b l i w W) (us : List Value) (hu : us.length = 6) (hT : KR (fun k => w.heap.size < k) W t us) : SL b l i w [t] (.slice (some ⟨W.heap.size, 0, none⟩) 1 1) (W.alloc (.cells us.toArray 38)) :=
  ⟨h.on (al_below W _), OR.lit W t us h.sz hu (KR.go ⟨(al_below W _).size, fun k hk hl => ⟨⟨hk, fun e => by simp only [Value.ownBlock, Option.some.injEq] at e; omega⟩, (al_below W _).block k hl⟩⟩ _ _ hT)⟩
/-- The further alternatives from i to j. -/
inductive Alts (b : Nat) (l : List UInt8) : Nat → List NT → Nat → Prop
  | nil (j : Nat) : Alts b l j [] j
  | cons (i k j : Nat) (t : NT) (ts : List NT) (hv : Asc.at_ l i = 124) (hr : RdC 73 b l (i + 1) t k) (hc : Alts b l k ts j) : Alts b l i (t :: ts) j

set_option maxHeartbeats 4000000 in
set_option maxRecDepth 1000000 in
theorem choice_any (b : Nat) (l : List UInt8) (i m : Nat) (t0 : NT) (ts : List NT) (j : Nat) (h0 : RdC 73 b l i t0 m) (hch : Alts b l m ts j) (hstop : Asc.at_ l j ≠ 124) (hts : ts.length ≤ 999) : RdC 55 b l i (joinT 3 (t0 :: ts)) j := by
  intro w h
  have HC := Lib.hid hch
  have HST := Lib.hid hstop
  have H0 := Lib.hid h0
  have HS := Lib.hid (PR.start h)
  clear h hch hstop h0
  obtain ⟨i0, hi, hz0, hz1, hz2⟩ := info_parts infoN
  go_enter Tryz.func55, Tryz.ntmps55
  go_wp2_with fail
  refine (H0.out _ HS.out.ps).mono ?_
  rintro e w0 ⟨x, rfl, hT, hq⟩
  have HS0 := Lib.hid (HS.out.go hq)
  have HT0 := Lib.hid (hT.up HS.out.sz)
  obtain ⟨op, rs, nm, kk, mn, mx, ra2, rc2, a, cc, ht, rfl, _⟩ := hT.open
  have HL0 := Lib.hid (SL.lit HS0.out [.int .i64 op, .slice ra2 rs.length rc2, .string ⟨nm.toArray⟩, .slice a kk.length cc, .int .i64 mn, .int .i64 mx] rfl HT0.out)
  clear hq hT ht HS HS0 HT0
  go_wp2_with fail
  go_loopw [3] (fun v wr => ∃ (k : Nat) (kids rest : List NT), Hid (kids ++ rest = t0 :: ts) ∧ kids.length + rest.length ≤ 1000 ∧ slLen v = kids.length ∧ Hid (Alts b l k rest j) ∧ Hid (SL b l k w kids v wr)) (fun v _ => 1001 - slLen v)
  case atStart => exact ⟨m, [t0], ts, Lib.hid rfl, by simp; omega, rfl, HC, HL0⟩
  case round =>
    obtain ⟨k, kids, rest, HE, hlen, hsl, HCH, HSL⟩ := hrel
    clear HL0 HC hts
    have hrow := HSL.out.rows
    obtain ⟨ra, rc, rfl, _⟩ := hrow
    clear hsl
    cases rest with
    | nil =>
      have HKT : Hid (kids = t0 :: ts) := Lib.hid (by simpa using HE.out)
      cases HCH.out
      have HN := Lib.hid fun W (hW : PS b l j W) => ptakes_no b l j W hW 124 HST.out
      go_wp2_with fail
      refine (HN.out _ HSL.out.pr.ps).mono ?_
      rintro e w1 ⟨rfl, hq⟩
      have HS1 := Lib.hid (HSL.out.go hq)
      clear hq HSL
      go_wp2_with fail
      refine (join_any 3 kids _ _ (w.heap.size + 1) HS1.out.rows).mono ?_
      rintro e w3 ⟨x, rfl, hT, hb⟩
      have HS3 := Lib.hid (HS1.out.pr.on hb)
      have HT3 := Lib.hid (HKT.out ▸ hT)
      obtain ⟨op, rs, nm, kk, mn, mx, ra2, rc2, a, cc, ht, rfl, _⟩ := hT.open
      clear hT hb ht HS1
      obtain ⟨k0, k1, k2, k3, k4, k5, f0, f1, f2, f3, f4, f5⟩ := bk6 HS3.out.bk
      go_wp2_with fail
      rw [nest6 w3]
      exact node_ret3 (P := 2) rfl HS3.out _ _ rfl (by rfl) HT3.out
    | cons t rest =>
      cases HCH.out with
      | cons _ k2 _ _ _ hv hr hc =>
      have HR := Lib.hid hr
      have HC2 := Lib.hid hc
      have HN := Lib.hid fun W (hW : PS b l k W) => ptakes_yes b l k W hW 124 hv (by decide)
      clear hr hc hv
      go_wp2_with fail
      refine (HN.out _ HSL.out.pr.ps).mono ?_
      rintro e w1 ⟨rfl, hq⟩
      have HS1 := Lib.hid (HSL.out.go hq)
      clear hq HSL
      go_wp2_with fail
      refine (HR.out _ HS1.out.pr.ps).mono ?_
      rintro e w2 ⟨x, rfl, hT, hq⟩
      have HS2 := Lib.hid (HS1.out.go hq)
      have HT2 := Lib.hid (HS1.out.new hT)
      obtain ⟨op, rs, nm, kk, mn, mx, ra2, rc2, a, cc, ht, rfl, _⟩ := hT.open
      clear hq hT ht HS1
      obtain ⟨cs, hown, hpush⟩ := HS2.out.row.cells
      have HPU := Lib.hid hpush
      have HSZ := Lib.hid HS2.out.pr.sz
      clear hpush
      go_wp2_with (at_builtin; refine wpList_append_lies _ rfl _ _ 36 rfl (w.heap.size + 1) 38 i0 (.agg #[.int .i64 0, .slice none 0 0, .string ⟨#[]⟩, .slice none 0 0, .int .i64 0, .int .i64 0]) 6 88 Tryz.underlying36 hi hz0 hz1 hz2 rfl (by decide) _ kids.length cs rfl (hown.alloc _) ⟨w2.heap.size, 0, none⟩ 1 1 [.int .i64 op, .slice ra2 rs.length rc2, .string ⟨nm.toArray⟩, .slice a kk.length cc, .int .i64 mn, .int .i64 mx] rfl rfl (World.news_of_block (heap_alloc_new w2 _)) (node_one _ _ _ _ _ _ _ _ _ _) (by omega) (by unfold maxLen; omega) (by omega) (Nat.le_trans HSZ.out (by simp)) _ rfl ?_; intro g6 cap6 w6 hown6 hgr6 hat6 hlt6; have HS6 := Lib.hid (HS2.out.push cs hown HPU.out hgr6 hat6 rfl _ rfl HT2.out (by omega) hown6); clear hown6 hgr6 hat6 hlt6 hown)
      refine ⟨⟨k2, kids ++ [t], rest, Lib.hid (by rw [List.append_assoc, List.singleton_append]; exact HE.out), by simp; simp at hlen; omega, by simp [slLen], HC2, HS6⟩, by simp [slLen]; simp at hlen; omega⟩
end Go.Proofs.YtgcpinnnfoanjaaGreatDoor
namespace Go.Proofs.YtgcpinnnfoanjaaGreatDoor
open Go.RowKit

/-- A node and two plain results. -/
theorem results_item3 {P : Program} {fn : Func} {p t u : Tmp} {ty : TypeId} (h : fn.results = #[.cell p ty, .tmp t, .tmp u]) (tmps : Array Value) (w : World) (g : Nat) (cs : List Value) (d : TypeDesc)
    (hp : tmps.getD p undef = .pointer (some ⟨g, 0, none⟩)) (hc : ∀ j v, cs[j]? = some v → w.cell? ⟨g, j, none⟩ = some v)
    (hu : P.underlying ty = some d) (hd : (match d with | .struct _ | .array _ _ => true | _ => false) = true) (hi : (P.info? ty).map (·.size) = some cs.length) :
    (results fn tmps).run P w = .ok (.tuple #[.agg cs.toArray, tmps.getD t undef, tmps.getD u undef]) w := by
  have hl : (loadCells ⟨g, 0, none⟩ cs.length).run P w = .ok cs.toArray w :=
    run_loadCells_list (P := P) w ⟨g, 0, none⟩ cs (fun j v hv => by
      have hadd : (⟨g, 0, none⟩ : Addr).add j = ⟨g, j, none⟩ := by unfold Addr.add; split <;> simp_all
      rw [hadd]
      exact hc j v hv)
  have hv : (loadVar ty ⟨g, 0, none⟩).run P w = .ok (.agg cs.toArray) w := by
    cases hq : P.info? ty with
    | none => simp [hq] at hi
    | some i =>
      have hs : i.size = cs.length := by simpa [hq] using hi
      have hagg : (isAgg ty).run P w = .ok true w := by
        unfold isAgg
        rw [Sem.run_bind, run_underlying hu w]
        cases d <;> simp_all
      simp [loadVar, Sem.run_bind, hagg, sizeOf, typeInfo, hq, hs, hl]
  have hp' : tmps[p]?.getD undef = .pointer (some ⟨g, 0, none⟩) := by simpa using hp
  simp [results, h, hp', asAddr, hv]
theorem item_ret3 {fn : Func} {P t u : Tmp} (hfn : fn.results = #[.cell P 38, .tmp t, .tmp u]) {W : World} {b : Nat} {E : Nat → Value} (hS : BK b 6 E W) {tmps : Array Value} {df : _} (hdf : df = []) (hp : tmps.getD P undef = .pointer (some ⟨b, 0, none⟩)) {v0 v1 v2 v3 v4 v5 : Value} {post : Ending → World → Prop}
    (h : post (.returned (.tuple #[.agg #[v0, v1, v2, v3, v4, v5], tmps.getD t undef, tmps.getD u undef])) (setL W b [v0, v1, v2, v3, v4, v5] 0)) :
    bodyPost Tryz.prog fn post Exit.ret { tmps := tmps, defers := df } (setL W b [v0, v1, v2, v3, v4, v5] 0) := by
  have hc := setL_at (b := b) [v0, v1, v2, v3, v4, v5] W 0 (fun j _ hj => ⟨_, hS.ev j (by simpa using hj)⟩)
  exact bodyPost_ret (results_item3 (ty := 38) hfn tmps _ b [v0, v1, v2, v3, v4, v5] _ hp (fun j v hv => by have := hc j v hv; rwa [Nat.zero_add] at this) Tryz.underlying38 rfl (by kernel_rfl)) hdf h

set_option maxHeartbeats 4000000 in
set_option maxRecDepth 1000000 in
theorem parse_ok (l : List UInt8) (t : NT) (hl : l.length ≤ 400) (hc : ∀ b, 0 < b → RdC 55 b l 0 t l.length) (he : ckE t = 0) (w : World) (hk : Kinds w) :
    Calls Tryz.prog 35 #[.string ⟨l.toArray⟩] w fun e w' => ∃ v, e = .returned (.tuple #[v, .int .i64 l.length, .int .i64 0]) ∧ NG (fun k => w.heap.size ≤ k) w' t v ∧ Below w.heap.size w w' := by
  have hkb : 0 < w.heap.size + 1 := Nat.lt_succ_of_lt hk.1
  have HC := Lib.hid (hc (w.heap.size + 1) hkb)
  have HE := Lib.hid he
  have z0 : decide ((400 : Int) < (l.length : Int)) = false := decide_eq_false (by omega)
  have y0 : decide (400 < l.length) = false := decide_eq_false (by omega)
  have hb1 := al_below w (.cells #[.int .i64 0, .slice none 0 0, .string ⟨#[]⟩, .slice none 0 0, .int .i64 0, .int .i64 0] 38)
  have hb2 := al_below (w.alloc (.cells #[.int .i64 0, .slice none 0 0, .string ⟨#[]⟩, .slice none 0 0, .int .i64 0, .int .i64 0] 38)) (.cells #[.string ⟨l.toArray⟩, .int .i64 0, .int .i64 0] 106)
  have HB0 := Lib.hid (hb1.trans (hb2.mono hb1.size))
  have HS0 : Hid (PS (w.heap.size + 1) l 0 ((w.alloc (.cells #[.int .i64 0, .slice none 0 0, .string ⟨#[]⟩, .slice none 0 0, .int .i64 0, .int .i64 0] 38)).alloc (.cells #[.string ⟨l.toArray⟩, .int .i64 0, .int .i64 0] 106))) := Lib.hid ⟨by
      have := BK.new (w.alloc (.cells #[.int .i64 0, .slice none 0 0, .string ⟨#[]⟩, .slice none 0 0, .int .i64 0, .int .i64 0] 38)) #[.string ⟨l.toArray⟩, .int .i64 0, .int .i64 0] 106 (psE l 0 0) 3 (fun i hi => by
        match i, hi with
        | 0, _ => rfl
        | 1, _ => rfl
        | 2, _ => rfl)
      unfold PSt
      simpa using this, Nat.zero_le _, by omega, hk.below (HB0.out), hkb⟩
  have HK0 := Lib.hid ((nE_new w 0 none 0 0 [] none 0 0 0 0).on hb2 (by simp))
  clear hk hc he hb1 hb2 hkb
  go_enter Tryz.func35, Tryz.ntmps35
  go_wp2_with fail
  refine (HC.out _ HS0.out).mono ?_
  rintro e w1 ⟨v, rfl, hT, hq⟩
  have HB1 := Lib.hid (hq.ap.below HB0.out (Nat.le_succ _))
  have HK1 := Lib.hid (HK0.out.go hq.ap (Nat.ne_of_lt (Nat.lt_succ_self _)))
  have HS1 := Lib.hid hq.ps
  have HT1 := Lib.hid (hT.up (B := w.heap.size) (by simp; omega))
  obtain ⟨op, rs, nm, kids, mn, mx, ra, rc, a, cc, ht, rfl, _⟩ := hT.open
  have HLT := Lib.hid HK1.out.lt
  clear hT hq ht HB0 HK0 HS0
  have hal := al_below w1 (.cells #[.int .i64 op, .slice ra rs.length rc, .string ⟨nm.toArray⟩, .slice a kids.length cc, .int .i64 mn, .int .i64 mx] 38)
  have HS2 := Lib.hid (HS1.out.on hal HS1.out.st.lt)
  have HT2 := Lib.hid (HT1.out.low hal)
  have HK2 := Lib.hid (HK1.out.on hal HK1.out.lt)
  have HQ2 := Lib.hid (nE_new w1 op ra rs.length rc nm a kids.length cc mn mx)
  have HB2 := Lib.hid (HB1.out.trans (hal.mono HB1.out.size))
  have c1 := HS2.out.c1
  have c2 := HS2.out.c2
  clear hal HB1 HK1 HS1 HT1
  go_wp2_with fail
  refine (check_any t _ _ HT2.out.at HS2.out.kd).mono ?_
  rintro e w2 ⟨rfl, hb⟩
  rw [HE.out]
  have HT3 := Lib.hid (HT2.out.low hb)
  have HK3 := Lib.hid (HK2.out.on hb HK2.out.lt)
  have HQ3 := Lib.hid (HQ2.out.on hb HQ2.out.lt)
  have HB3 := Lib.hid (HB2.out.trans (hb.mono HB2.out.size))
  clear hb HT2 HK2 HS2 HB2 c1 c2
  obtain ⟨q0, q1, q2, q3, q4, q5⟩ := bkn HQ3.out
  obtain ⟨q, hq⟩ : ∃ q, w1.heap.size = q := ⟨_, rfl⟩
  have hqw : q ≠ w.heap.size := by have := HLT.out; omega
  rw [hq] at q0 q1 q2 q3 q4 q5 ⊢
  obtain ⟨k0, k1, k2, k3, k4, k5, f0, f1, f2, f3, f4, f5⟩ := bk6 HK3.out
  go_wp2_with fail
  rw [nest6 w2]
  have hbl := setL_below (B := w.heap.size) (b := w.heap.size) (Nat.le_refl _) [.int .i64 op, .slice ra rs.length rc, .string ⟨nm.toArray⟩, .slice a kids.length cc, .int .i64 mn, .int .i64 mx] w2 0
  exact item_ret3 (P := 2) rfl HK3.out rfl (by rfl) ⟨_, rfl, NG.go ⟨hbl.size, fun j hj _ => ⟨Nat.le_of_lt hj, setL_heap _ (Nat.ne_of_gt hj) _ _⟩⟩ _ _ HT3.out, HB3.out.trans hbl⟩
end Go.Proofs.YtgcpinnnfoanjaaGreatDoor
/-
  Parse of the law's text.
-/
namespace Go.Proofs.YtgcpinnnfoanjaaGreatDoor
open Go.RowKit

theorem rngs_skip (f : Nat → Bool) (hi : Nat) (hhi : hi ≤ 256) : ∀ lo, lo ≤ hi → (∀ j, lo ≤ j → j < hi → f j = false) → rngs f lo = rngs f hi := by
  intro lo h1 h2
  obtain ⟨n, hn⟩ : ∃ n, hi - lo = n := ⟨_, rfl⟩
  induction n generalizing lo with
  | zero => rw [show lo = hi by omega]
  | succ n ih => rw [rngs_off f lo (by omega) (h2 lo (Nat.le_refl _) (by omega)), ih (lo + 1) (by omega) (fun j h3 h4 => h2 j (by omega) h4) (by omega)]
theorem runTo_all (f : Nat → Bool) (hi : Nat) (hhi : hi < 256) (hend : hi + 1 < 256 → f (hi + 1) = false) : ∀ lo, lo ≤ hi → (∀ j, lo < j → j ≤ hi → f j = true) → runTo f lo = hi := by
  intro lo h1 h2
  obtain ⟨n, hn⟩ : ∃ n, hi - lo = n := ⟨_, rfl⟩
  induction n generalizing lo with
  | zero => rw [show lo = hi by omega]; exact runTo_off f hi hend
  | succ n ih => rw [← runTo_on f lo (by omega) (h2 (lo + 1) (by omega) (by omega)), ih (lo + 1) (by omega) (fun j h3 h4 => h2 j (by omega) h4) (by omega)]
/-- A set of bytes that lie together has one range. -/
theorem rngs_one (f : Nat → Bool) (lo hi : Nat) (h : lo ≤ hi) (h2 : hi < 256) (hf : ∀ j, j < 256 → (f j = true ↔ lo ≤ j ∧ j ≤ hi)) : rngs f 0 = [(UInt8.ofNat lo, UInt8.ofNat hi)] := by
  have hno : ∀ j, j < 256 → ¬ (lo ≤ j ∧ j ≤ hi) → f j = false := fun j hj hn => by cases hh : f j with | false => rfl | true => exact absurd ((hf j hj).1 hh) hn
  rw [rngs_skip f lo (by omega) 0 (Nat.zero_le _) (fun j _ hj => hno j (by omega) (by omega)), rngs_on f lo (by omega) ((hf lo (by omega)).2 ⟨Nat.le_refl _, h⟩),
    runTo_all f hi h2 (fun h3 => hno _ h3 (by omega)) lo h (fun j h3 h4 => (hf j (by omega)).2 ⟨by omega, h4⟩), rngs_skip f 256 (Nat.le_refl _) (hi + 1) (by omega) (fun j h3 h4 => hno j h4 (by omega))]
  rw [rngs, dif_neg (by omega)]

/-- The law's text: (n:\d+)ms -/
def awS : List UInt8 := [40, 110, 58, 92, 100, 43, 41, 109, 115]
def awD : NT := .node 1 [(48, 57)] [] [] 0 0
def awT : NT := .node 2 [] [] [.node 5 [] [110] [.node 4 [] [] [awD] 1 (-1)] 0 0, .node 1 [(109, 109)] [] [] 0 0, .node 1 [(115, 115)] [] [] 0 0] 0 0
theorem rngs_d : rngs Asc.isDigit 0 = [(48, 57)] := rngs_one _ 48 57 (by omega) (by omega) (fun j _ => by unfold Asc.isDigit; simp)
theorem rngs_c (c : UInt8) : rngs (spanF c.toNat (c.toNat + 1)) 0 = [(c, c)] := by
  have := UInt8.toNat_lt c
  rw [rngs_one _ c.toNat c.toNat (Nat.le_refl _) this (fun j _ => by unfold spanF; simp; omega)]
  simp
theorem aw_at : Asc.at_ awS 0 = 40 ∧ Asc.at_ awS 3 = 92 ∧ Asc.at_ awS 4 = 100 ∧ Asc.at_ awS 5 = 43 ∧ Asc.at_ awS 6 = 41 ∧ Asc.at_ awS 7 = 109 ∧ Asc.at_ awS 8 = 115 ∧ Asc.at_ awS 9 = 999 := by decide
theorem aw_choice (b : Nat) : RdC 55 b awS 0 awT 9 := by
  obtain ⟨a0, a3, a4, a5, a6, a7, a8, a9⟩ := aw_at
  have d := atom_digit b awS 3 a3 a4
  rw [rngs_d] at d
  have r3 := rep_plus b awS 3 _ 5 d a5
  have c3 := concat_any b awS 3 [_] 6 (.cons 3 6 6 92 _ [] a3 (by decide) (by decide) (by decide) r3 (.nil 6)) (.inr (.inr a6)) (by simp)
  have h3 := choice_any b awS 3 6 _ [] 6 c3 (.nil 6) (by rw [a6]; decide) (by simp)
  have g1 := group_named b awS 1 1 _ 6 (by decide) (by decide) (by decide) h3 a6 110 [] (by decide)
  have r0 := rep_none b awS 0 _ 7 (atom_group b awS 0 _ 7 a0 g1) (fun d hd => by rw [a7]; omega)
  have m7 := atom_plain b awS 7 109 (by rw [a7]; decide) (by decide) (by decide) (by decide)
  rw [rngs_c] at m7
  have r7 := rep_none b awS 7 _ 8 m7 (fun d hd => by rw [a8]; omega)
  have s8 := atom_plain b awS 8 115 (by rw [a8]; decide) (by decide) (by decide) (by decide)
  rw [rngs_c] at s8
  have r8 := rep_none b awS 8 _ 9 s8 (fun d hd => by rw [a9]; omega)
  have c0 := concat_any b awS 0 [_, _, _] 9 (.cons 0 7 9 40 _ _ a0 (by decide) (by decide) (by decide) r0 (.cons 7 8 9 109 _ _ a7 (by decide) (by decide) (by decide) r7 (.cons 8 9 9 115 _ [] a8 (by decide) (by decide) (by decide) r8 (.nil 9)))) (.inl (by decide)) (by simp)
  exact choice_any b awS 0 9 _ [] 9 c0 (.nil 9) (by rw [a9]; decide) (by simp)
theorem aw_ck : ckE awT = 0 := by
  have hs : ∀ (x y : UInt8), x.toNat ≤ y.toNat → srtB [(x, y)] = true := fun x y h => srtB_yes ⟨by simp, fun i hi => by
    obtain rfl : i = 0 := by simpa using hi
    unfold okR
    simp
    exact h⟩
  have hn : nmB [110] = true := nmB_yes ⟨by decide, by decide, by decide, by decide⟩
  have hck : ckN awT 0 0 [] = (6, [[110]], 0) := by
    unfold awT awD
    simp [ckN, ckNs, shE, shpB, badR, hs, hn]
  exact (ckE_of hck).2.2.2 rfl (by
    rintro ⟨i, hi, hm⟩
    obtain rfl : i = 0 := by simpa using hi
    simp at hm) (by simp)
theorem awake_any (w : World) (hk : Kinds w) : Calls Tryz.prog 35 #[.string ⟨#[40, 110, 58, 92, 100, 43, 41, 109, 115]⟩] w fun e w' => ∃ v, e = .returned (.tuple #[v, .int .i64 9, .int .i64 0]) ∧ NG (fun k => w.heap.size ≤ k) w' awT v ∧ Below w.heap.size w w' :=
  parse_ok awS awT (by decide) (fun b _ => aw_choice b) aw_ck w hk
end Go.Proofs.YtgcpinnnfoanjaaGreatDoor

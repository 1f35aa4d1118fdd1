/-
  The parser: an escape, the name of a capture, the bytes that stand for themselves.
-/
import Derived.Test.YtphbkompnddflaaGreatDoorPatY
import Derived.Shelf.Strings.Search1
import Derived.Laws.CopyOwn
namespace Go.Proofs.YtphbkompnddflaaGreatDoor
open Go.RowKit

/-- The length of the name ahead of a colon. -/
def capN (l : List UInt8) : Nat := if 0 < nlen l ∧ Asc.at_ l (nlen l) = 58 then nlen l else 0
theorem capN_no (l : List UInt8) (h : ¬ (0 < nlen l ∧ Asc.at_ l (nlen l) = 58)) : capN l = 0 := if_neg h
theorem capN_yes (l : List UInt8) (h : 0 < nlen l) (h2 : Asc.at_ l (nlen l) = 58) : capN l = nlen l := if_pos ⟨h, h2⟩
set_option maxHeartbeats 4000000 in
set_option maxRecDepth 1000000 in
theorem capt_any (l : List UInt8) (w : World) (hk : Kinds w) (hml : l.length ≤ 9223372036854775807) :
    Calls Tryz.prog 89 #[.string ⟨l.toArray⟩] w fun e w' => e = .returned (.int .i64 (capN l)) ∧ w = w' := by
  have HN := Lib.hid (nlen_any l w hk hml)
  obtain ⟨n, hn⟩ : ∃ n, nlen l = n := ⟨_, rfl⟩
  obtain ⟨R, hR⟩ : ∃ R, capN l = R := ⟨_, rfl⟩
  have h0 : ¬ (0 < n ∧ Asc.at_ l n = 58) → 0 = R := fun h => by rw [← hR, capN_no l (by rw [hn]; exact h)]
  have h1 : 0 < n → Asc.at_ l n = 58 → n = R := fun h h2 => by rw [← hR, capN_yes l (by rw [hn]; exact h) (by rw [hn]; exact h2), hn]
  rw [hn] at HN
  rw [hR]
  have H0 := Lib.hid h0
  have H1 := Lib.hid h1
  clear hn hR h0 h1 hk
  rcases Nat.eq_zero_or_pos n with rfl | hpos
  · have HZ := Lib.hid (H0.out (by omega))
    go_enter Tryz.func89, Tryz.ntmps89
    go_wp2_with (go_at_call 48; refine HN.out.mono ?_; rintro e w' ⟨rfl, rfl⟩)
    go_ret
    exact ⟨ret_int (by rw [← HZ.out]; rfl), rfl⟩
  · have z0 : decide ((0 : Int) < (n : Int)) = true := decide_eq_true (by omega)
    have y0 : decide (0 < n) = true := decide_eq_true hpos
    by_cases hlt : n < l.length
    · have z1 : decide ((n : Int) < (l.length : Int)) = true := decide_eq_true (by omega)
      have y1 : decide (n < l.length) = true := decide_eq_true hlt
      have i1 : (n : Int) < (l.length : Int) := by omega
      have i2 : (0 : Int) ≤ (n : Int) := by omega
      obtain ⟨c, ⟨_, hx⟩, hc, hb⟩ := byte_at l n hlt
      have hc' : Asc.at_ l n = c := by rw [Asc.at_of hlt, hc]
      by_cases h58 : c = 58
      · have HZ := Lib.hid (H1.out hpos (by rw [hc', h58]))
        subst h58
        clear hc hc'
        go_enter Tryz.func89, Tryz.ntmps89
        go_wp2_with (go_at_call 48; refine HN.out.mono ?_; rintro e w' ⟨rfl, rfl⟩)
        go_ret
        exact ⟨ret_int (by rw [← HZ.out]), rfl⟩
      · have z2 : ((c : Int) == 58) = false := by rw [beq_eq_false_iff_ne]; omega
        have HZ := Lib.hid (H0.out (fun h => h58 (hc'.symm.trans h.2)))
        clear hc hc' h58
        go_enter Tryz.func89, Tryz.ntmps89
        go_wp2_with (go_at_call 48; refine HN.out.mono ?_; rintro e w' ⟨rfl, rfl⟩)
        go_ret
        exact ⟨ret_int (by rw [← HZ.out]; rfl), rfl⟩
    · have z1 : decide ((n : Int) < (l.length : Int)) = false := decide_eq_false (by omega)
      have y1 : decide (n < l.length) = false := decide_eq_false hlt
      have HZ := Lib.hid (H0.out (fun h => hlt (Asc.at_lt (by omega))))
      clear hlt
      go_enter Tryz.func89, Tryz.ntmps89
      go_wp2_with (go_at_call 48; refine HN.out.mono ?_; rintro e w' ⟨rfl, rfl⟩)
      go_ret
      exact ⟨ret_int (by rw [← HZ.out]; rfl), rfl⟩

set_option maxHeartbeats 4000000 in
set_option maxRecDepth 1000000 in
theorem printable_yes (c : Nat) (w : World) (h1 : 32 ≤ c) (h2 : c ≤ 126) : Calls Tryz.prog 75 #[.int .u8 (c : Int)] w fun e w' => e = .returned (.bool true) ∧ w = w' := by
  have z1 : decide ((32 : Int) ≤ (c : Int)) = true := decide_eq_true (by omega)
  have y1 : decide (32 ≤ c) = true := decide_eq_true h1
  have z2 : decide ((c : Int) ≤ 126) = true := decide_eq_true (by omega)
  have y2 : decide (c ≤ 126) = true := decide_eq_true h2
  go_enter Tryz.func75, Tryz.ntmps75
  go_wp2_with fail
  go_ret
  exact ⟨rfl, rfl⟩

set_option maxHeartbeats 4000000 in
set_option maxRecDepth 1000000 in
theorem slite_any (s : ByteArray) (c : Int) (w : World) : Calls Tryz.prog 86 #[.string s, .int .u8 c] w fun e w' => e = .returned (.int .i64 (Lib.indexByte s.data.toList c.toNat.toUInt8)) ∧ w' = w := by
  go_enter Tryz.func86, Tryz.ntmps86
  go_wp2
  rw [run_callFunc_extern Tryz.func95 (by kernel_rfl) (by kernel_rfl) (by kernel_rfl) (e := Extern.BytealgIndexByte.indexByte) (by kernel_rfl), Lib.run_indexByteString]
  simp only [Result.andThen]
  rw [Oper.upon_value]
  go_wp2
  go_ret
  exact ⟨rfl, rfl⟩
set_option maxHeartbeats 4000000 in
set_option maxRecDepth 1000000 in
theorem ibyte_any (s : ByteArray) (c : Int) (w : World) : Calls Tryz.prog 76 #[.string s, .int .u8 c] w fun e w' => e = .returned (.int .i64 (Lib.indexByte s.data.toList c.toNat.toUInt8)) ∧ w' = w := by
  go_enter Tryz.func76, Tryz.ntmps76
  go_wp2_with (go_at_call 86; refine (slite_any _ _ _).mono ?_; rintro e w' ⟨rfl, rfl⟩)
  go_ret
  exact ⟨rfl, rfl⟩
/-- The bytes that do not stand for themselves. -/
def spec : List UInt8 := [40, 41, 91, 93, 123, 125, 42, 43, 63, 124, 46, 94, 36, 92]
theorem special_no (c : UInt8) (w : World) (h : c ∉ spec) : Calls Tryz.prog 76 #[.string ⟨#[40, 41, 91, 93, 123, 125, 42, 43, 63, 124, 46, 94, 36, 92]⟩, .int .u8 (c.toNat : Int)] w fun e w' => e = .returned (.int .i64 (-1)) ∧ w' = w := by
  refine (ibyte_any _ _ w).mono ?_
  rintro e w' ⟨rfl, rfl⟩
  refine ⟨?_, rfl⟩
  show Ending.returned (.int .i64 (Lib.indexByte spec _)) = _
  rw [u8_of, Asc.indexByte_pos, if_neg (Asc.pos_none fun j hj => fun e => h (by rw [← e]; exact List.getElem_mem hj))]

/-- A set and two plain results. -/
theorem ret_set3 {fn : Func} {p t u : Tmp} (hfn : fn.results = #[.cell p 94, .tmp t, .tmp u]) {w : World} {f : Nat → Bool} {g : Nat} {ty : TypeId} (hg : w.heap[g]? = some (.cells (setA f) ty (0, 0))) {tmps : Array Value} {df : _} (hdf : df = []) (hp : tmps.getD p undef = .pointer (some ⟨g, 0, none⟩)) {post : Ending → World → Prop}
    (h : post (.returned (.tuple #[.agg (setA f), tmps.getD t undef, tmps.getD u undef])) w) : bodyPost Tryz.prog fn post Exit.ret { tmps := tmps, defers := df } w := by
  have hp' : tmps[p]?.getD undef = .pointer (some ⟨g, 0, none⟩) := by simpa using hp
  have hl := run_loadVar_row (P := Tryz.prog) w g ty 94 (setA f) (0, 0) _ hg undS rfl (by rw [setA_size]; exact (zero_of_info infoS).2)
  exact bodyPost_ret (by simp [results, hfn, hp', asAddr, hl]) hdf h
theorem put_set2 {W : World} {g : Nat} {f : Nat → Bool} {t : TypeId} (hg : W.heap[g]? = some (.cells (setA f) t (0, 0))) (f' : Nat → Bool) : ∃ W', (storeCells ⟨g, 0, none⟩ (setA f').toList).run Tryz.prog W = .ok () W' ∧ W'.heap[g]? = some (.cells (setA f') t (0, 0)) ∧ Below g W W' ∧ (storeCells ⟨g, 0, none⟩ (setA f').toList).run Tryz.prog W' = .ok () W' := by
  have h1 := setRow_heap W g _ (setA f') t (0, 0) hg
  refine ⟨_, put_set hg f', h1, below_setRow (Below.refl _ W) (Nat.le_refl _) _, ?_⟩
  have := put_set h1 f'
  rwa [setRow_self _ _ _ _ _ h1] at this
theorem put_self {W : World} {g : Nat} {f : Nat → Bool} {t : TypeId} (hg : W.heap[g]? = some (.cells (setA f) t (0, 0))) : (storeCells ⟨g, 0, none⟩ (setA f).toList).run Tryz.prog W = .ok () W := by
  have := put_set hg f
  rwa [setRow_self _ _ _ _ _ hg] at this
set_option maxHeartbeats 8000000 in
set_option maxRecDepth 1000000 in
theorem escape_d (b : Nat) (l : List UInt8) (at_ : Nat) (w : World) (h : PS b l at_ w) (hc : Asc.at_ l at_ = 100) : Calls Tryz.prog 83 #[.pointer (some ⟨b, 0, none⟩)] w fun r w' => r = .returned (.tuple #[.agg (setA Asc.isDigit), .int .u8 100, .bool false]) ∧ PQ b l (at_ + 1) w w' := by
  have hv := (zero_of_info infoS).1
  have hl : at_ < l.length := Asc.at_lt (by omega)
  have hl2 := h.len
  have hw : IntKind.i64.wrap ((at_ : Int) + 1) = (at_ : Int) + 1 := IntWalk.i64_in _ (by omega)
  have hbb := h.st.lt
  have HL := Lib.hid hl
  have H := Lib.hid h
  have HC := Lib.hid hc
  clear h hc hl
  go_enter Tryz.func83, Tryz.ntmps83
  go_wp2_with fail
  rw [← setA_false]
  have HQ0 := Lib.hid ((PQ.refl H.out).on (al_below w (.cells (setA (fun _ => false)) 94)))
  refine (pnext_ok b l at_ _ HQ0.out.ps 100 HC.out (by omega)).mono ?_
  rintro e w1 ⟨rfl, hq⟩
  have HQ1 := Lib.hid (HQ0.out.trans hq)
  have HB1 := Lib.hid ((hq.ap.block (k := w.heap.size) (by omega) (by simp)).trans (heap_alloc_new w _))
  clear hq HQ0
  go_wp2_with fail
  refine (where_digit w1 HQ1.out.ps.kd).mono ?_
  rintro e w2 ⟨rfl, hb2⟩
  have HB2 := Lib.hid ((hb2.block _ (Array.getElem?_eq_some_iff.1 HB1.out).1).trans HB1.out)
  have HQ2 := Lib.hid (HQ1.out.on hb2)
  clear hb2 HQ1 HB1
  obtain ⟨w3, e3, h3, hb3, e3'⟩ := put_set2 HB2.out Asc.isDigit
  have HQ3 := Lib.hid (HQ2.out.far (hb3.mono (Nat.le_refl _)) hbb)
  have HB3 := Lib.hid h3
  have c1 := HQ3.out.ps.c1
  have f1 := HQ3.out.ps.st.fz 1
  clear h3 hb3 HQ2 HB2
  go_wp2_with fail
  have h4 : (w3.setCell ⟨b, 1, none⟩ (.int .i64 ((at_ : Int) + 1))).heap[w.heap.size]? = _ := (Below.heap_setCell _ _ _ w.heap.size (by simp only; omega)).trans HB3.out
  have e4 := put_self h4
  refine wp_load_set _ rfl w.heap.size rfl _ _ h4 ?_
  go_wp2_with fail
  exact ret_set3 rfl h4 rfl rfl ⟨rfl, HQ3.out.trans (HQ3.out.ps.to (at_ + 1) HL.out)⟩
end Go.Proofs.YtphbkompnddflaaGreatDoor

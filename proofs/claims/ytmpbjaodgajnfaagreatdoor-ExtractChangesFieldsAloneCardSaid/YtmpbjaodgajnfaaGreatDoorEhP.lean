/-
 Joined: PatYa, PatYb, PatYc, PatYe, PatYg, PatYh.
-/
import Derived.Test.YtmpbjaodgajnfaaGreatDoorEhO
import Derived.Shelf.Strings.Search1
import Derived.Laws.CopyOwn
import Derived.Test.YtmpbjaodgajnfaaGreatDoorEhF
namespace Go.Proofs.YtmpbjaodgajnfaaGreatDoor
open Go.RowKit
def capN (l : List UInt8) : Nat := if 0 < nlen l ∧ Asc.at_ l (nlen l) = 58 then nlen l else 0
theorem capN_no (l : List UInt8) (h : ¬ (0 < nlen l ∧ Asc.at_ l (nlen l) = 58)) : capN l = 0 := if_neg h
theorem capN_yes (l : List UInt8) (h : 0 < nlen l) (h2 : Asc.at_ l (nlen l) = 58) : capN l = nlen l := if_pos ⟨h, h2⟩
set_option maxHeartbeats 4000000 in
set_option maxRecDepth 1000000 in
theorem capt_any (l : List UInt8) (w : World) (hk : Kinds w) (hml : l.length ≤ 9223372036854775807) :
  Calls Tryz.prog 165 #[.string ⟨l.toArray⟩] w fun e w' => e = .returned (.int .i64 (capN l)) ∧ w = w' := by
 have HN := Lib.hid (nlen_any l w hk hml)
 obtain ⟨n, hn⟩ : ∃ n, nlen l = n := ⟨_, rfl⟩
 obtain ⟨R, hR⟩ : ∃ R, capN l = R := ⟨_, rfl⟩
 have h0 : ¬ (0 < n ∧ Asc.at_ l n = 58) → 0 = R := fun h => by rw [← hR, capN_no l (by rw [hn]; exact h)]
 have h1 : 0 < n → Asc.at_ l n = 58 → n = R := fun h h2 => by rw [← hR, capN_yes l (by rw [hn]; exact h) (by rw [hn]; exact h2), hn]
 rw [hn] at HN
 rw [hR]
 have H0 := Lib.hid h0
 have H1 := Lib.hid h1
 clear hn hR h0 h1 hk
 rcases Nat.eq_zero_or_pos n with rfl | hpos
 ·have HZ := Lib.hid (H0.out (by omega))
  go_enter Tryz.func165, Tryz.ntmps165
  go_wp2_with (go_at_call 132; refine HN.out.mono ?_; rintro e w' ⟨rfl, rfl⟩)
  go_ret
  exact ⟨ret_int (by rw [← HZ.out]; rfl), rfl⟩
 ·have z0 : decide ((0 : Int) < (n : Int)) = true := decide_eq_true (by omega)
  have y0 : decide (0 < n) = true := decide_eq_true hpos
  by_cases hlt : n < l.length
  ·have z1 : decide ((n : Int) < (l.length : Int)) = true := decide_eq_true (by omega)
   have y1 : decide (n < l.length) = true := decide_eq_true hlt
   have i1 : (n : Int) < (l.length : Int) := by omega
   have i2 : (0 : Int) ≤ (n : Int) := by omega
   obtain ⟨c, ⟨_, hx⟩, hc, hb⟩ := byte_at l n hlt
   have hc' : Asc.at_ l n = c := by rw [Asc.at_of hlt, hc]
   by_cases h58 : c = 58
   ·have HZ := Lib.hid (H1.out hpos (by rw [hc', h58]))
    subst h58
    clear hc hc'
    go_enter Tryz.func165, Tryz.ntmps165
    go_wp2_with (go_at_call 132; refine HN.out.mono ?_; rintro e w' ⟨rfl, rfl⟩)
    go_ret
    exact ⟨ret_int (by rw [← HZ.out]), rfl⟩
   ·have z2 : ((c : Int) == 58) = false := by rw [beq_eq_false_iff_ne]; omega
    have HZ := Lib.hid (H0.out (fun h => h58 (hc'.symm.trans h.2)))
    clear hc hc' h58
    go_enter Tryz.func165, Tryz.ntmps165
    go_wp2_with (go_at_call 132; refine HN.out.mono ?_; rintro e w' ⟨rfl, rfl⟩)
    go_ret
    exact ⟨ret_int (by rw [← HZ.out]; rfl), rfl⟩
  ·have z1 : decide ((n : Int) < (l.length : Int)) = false := decide_eq_false (by omega)
   have y1 : decide (n < l.length) = false := decide_eq_false hlt
   have HZ := Lib.hid (H0.out (fun h => hlt (Asc.at_lt (by omega))))
   clear hlt
   go_enter Tryz.func165, Tryz.ntmps165
   go_wp2_with (go_at_call 132; refine HN.out.mono ?_; rintro e w' ⟨rfl, rfl⟩)
   go_ret
   exact ⟨ret_int (by rw [← HZ.out]; rfl), rfl⟩
set_option maxHeartbeats 4000000 in
set_option maxRecDepth 1000000 in
theorem printable_yes (c : Nat) (w : World) (h1 : 32 ≤ c) (h2 : c ≤ 126) : Calls Tryz.prog 153 #[.int .u8 (c : Int)] w fun e w' => e = .returned (.bool true) ∧ w = w' := by
 have z1 : decide ((32 : Int) ≤ (c : Int)) = true := decide_eq_true (by omega)
 have y1 : decide (32 ≤ c) = true := decide_eq_true h1
 have z2 : decide ((c : Int) ≤ 126) = true := decide_eq_true (by omega)
 have y2 : decide (c ≤ 126) = true := decide_eq_true h2
 go_enter Tryz.func153, Tryz.ntmps153
 go_wp2_with fail
 go_ret
 exact ⟨rfl, rfl⟩
set_option maxHeartbeats 4000000 in
set_option maxRecDepth 1000000 in
theorem slite_any (s : ByteArray) (c : Int) (w : World) : Calls Tryz.prog 172 #[.string s, .int .u8 c] w fun e w' => e = .returned (.int .i64 (Lib.indexByte s.data.toList c.toNat.toUInt8)) ∧ w' = w := by
 go_enter Tryz.func172, Tryz.ntmps172
 go_wp2
 rw [run_callFunc_extern Tryz.func176 (by kernel_rfl) (by kernel_rfl) (by kernel_rfl) (e := Extern.BytealgIndexByte.indexByte) (by kernel_rfl), Lib.run_indexByteString]
 simp only [Result.andThen]
 rw [Oper.upon_value]
 go_wp2
 go_ret
 exact ⟨rfl, rfl⟩
set_option maxHeartbeats 4000000 in
set_option maxRecDepth 1000000 in
theorem ibyte_any (s : ByteArray) (c : Int) (w : World) : Calls Tryz.prog 154 #[.string s, .int .u8 c] w fun e w' => e = .returned (.int .i64 (Lib.indexByte s.data.toList c.toNat.toUInt8)) ∧ w' = w := by
 go_enter Tryz.func154, Tryz.ntmps154
 go_wp2_with (go_at_call 172; refine (slite_any _ _ _).mono ?_; rintro e w' ⟨rfl, rfl⟩)
 go_ret
 exact ⟨rfl, rfl⟩
def spec : List UInt8 := [40, 41, 91, 93, 123, 125, 42, 43, 63, 124, 46, 94, 36, 92]
theorem special_no (c : UInt8) (w : World) (h : c ∉ spec) : Calls Tryz.prog 154 #[.string ⟨#[40, 41, 91, 93, 123, 125, 42, 43, 63, 124, 46, 94, 36, 92]⟩, .int .u8 (c.toNat : Int)] w fun e w' => e = .returned (.int .i64 (-1)) ∧ w' = w := by
 refine (ibyte_any _ _ w).mono ?_
 rintro e w' ⟨rfl, rfl⟩
 refine ⟨?_, rfl⟩
 show Ending.returned (.int .i64 (Lib.indexByte spec _)) = _
 rw [u8_of, Asc.indexByte_pos, if_neg (Asc.pos_none fun j hj => fun e => h (by rw [← e]; exact List.getElem_mem hj))]
theorem ret_set3 {fn : Func} {p t u : Tmp} (hfn : fn.results = #[.cell p 213, .tmp t, .tmp u]) {w : World} {f : Nat → Bool} {g : Nat} {ty : TypeId} (hg : w.heap[g]? = some (.cells (setA f) ty (0, 0))) {tmps : Array Value} {df : _} (hdf : df = []) (hp : tmps.getD p undef = .pointer (some ⟨g, 0, none⟩)) {post : Ending → World → Prop}
  (h : post (.returned (.tuple #[.agg (setA f), tmps.getD t undef, tmps.getD u undef])) w) : bodyPost Tryz.prog fn post Exit.ret { tmps := tmps, defers := df } w := by
 have hp' : tmps[p]?.getD undef = .pointer (some ⟨g, 0, none⟩) := by simpa using hp
 have hl := run_loadVar_row (P := Tryz.prog) w g ty 213 (setA f) (0, 0) _ hg undS rfl (by rw [setA_size]; exact (zero_of_info infoS).2)
 exact bodyPost_ret (by simp [results, hfn, hp', asAddr, hl]) hdf h
theorem put_set2 {W : World} {g : Nat} {f : Nat → Bool} {t : TypeId} (hg : W.heap[g]? = some (.cells (setA f) t (0, 0))) (f' : Nat → Bool) : ∃ W', (storeCells ⟨g, 0, none⟩ (setA f').toList).run Tryz.prog W = .ok () W' ∧ W'.heap[g]? = some (.cells (setA f') t (0, 0)) ∧ Below g W W' ∧ (storeCells ⟨g, 0, none⟩ (setA f').toList).run Tryz.prog W' = .ok () W' := by
 have h1 := setRow_heap W g _ (setA f') t (0, 0) hg
 refine ⟨_, put_set hg f', h1, below_setRow (Below.refl _ W) (Nat.le_refl _) _, ?_⟩
 have := put_set h1 f'
 rwa [setRow_self _ _ _ _ _ h1] at this
theorem put_self {W : World} {g : Nat} {f : Nat → Bool} {t : TypeId} (hg : W.heap[g]? = some (.cells (setA f) t (0, 0))) : (storeCells ⟨g, 0, none⟩ (setA f).toList).run Tryz.prog W = .ok () W := by
 have := put_set hg f
 rwa [setRow_self _ _ _ _ _ hg] at this
end Go.Proofs.YtmpbjaodgajnfaaGreatDoor
namespace Go.Proofs.YtmpbjaodgajnfaaGreatDoor
open Go.RowKit
structure PR (b : Nat) (l : List UInt8) (i : Nat) (w W : World) : Prop where
 pq : PQ b l i w W
 bk : BK w.heap.size 6 (nE 0 none 0 0 [] none 0 0 0 0) W
 hb : b < w.heap.size
theorem PR.start {b : Nat} {l : List UInt8} {i : Nat} {w : World} (h : PS b l i w) : PR b l i w (w.alloc (.cells #[.int .i64 0, .slice none 0 0, .string ⟨#[]⟩, .slice none 0 0, .int .i64 0, .int .i64 0] 33)) := ⟨(PQ.refl h).on (al_below w _), nE_new w 0 none 0 0 [] none 0 0 0 0, h.st.lt⟩
theorem PR.go {b : Nat} {l : List UInt8} {i j : Nat} {w W W' : World} (h : PR b l i w W) (k : PQ b l j W W') : PR b l j w W' := ⟨h.pq.trans k, h.bk.go k.ap (Nat.ne_of_gt h.hb), h.hb⟩
theorem PR.sz {b : Nat} {l : List UInt8} {i : Nat} {w W : World} (h : PR b l i w W) : w.heap.size < W.heap.size := h.bk.lt
theorem PR.far {b : Nat} {l : List UInt8} {i : Nat} {w W W' : World} (h : PR b l i w W) (k : Below (w.heap.size + 1) W W') : PR b l i w W' := ⟨h.pq.far (k.mono (Nat.le_succ _)) h.hb, h.bk.on k (Nat.lt_succ_self _), h.hb⟩
theorem PR.on {b : Nat} {l : List UInt8} {i : Nat} {w W W' : World} (h : PR b l i w W) (k : Below W.heap.size W W') : PR b l i w W' := h.far (k.mono h.sz)
theorem PR.ps {b : Nat} {l : List UInt8} {i : Nat} {w W : World} (h : PR b l i w W) : PS b l i W := h.pq.ps
theorem NG.up {W W' : World} {B : Nat} {t : NT} {v : Value} (h : NG (fun k => W.heap.size ≤ k) W' t v) (hB : B < W.heap.size) : NG (fun k => B < k) W' t v := NG.go ⟨Nat.le_refl _, fun _ hk _ => ⟨Nat.lt_of_lt_of_le hB hk, rfl⟩⟩ _ _ h
end Go.Proofs.YtmpbjaodgajnfaaGreatDoor
namespace Go.Proofs.YtmpbjaodgajnfaaGreatDoor
open Go.RowKit
theorem NG.pq {b B j : Nat} {l : List UInt8} {W W' : World} {t : NT} {v : Value} (h : NG (fun k => B < k) W t v) (k : PQ b l j W W') (hb : b ≤ B) : NG (fun k => B < k) W' t v := NG.go ⟨k.ap.1.size, fun _ hk hl => ⟨hk, k.ap.block (by omega) hl⟩⟩ _ _ h
theorem NG.low {B : Nat} {W W' : World} {t : NT} {v : Value} (h : NG (fun k => B < k) W t v) (k : Below W.heap.size W W') : NG (fun k => B < k) W' t v := NG.go ⟨k.size, fun _ hk hl => ⟨hk, k.block _ hl⟩⟩ _ _ h
theorem bkn {b : Nat} {W : World} {op : Int} {ra : Option Addr} {rn rc : Nat} {nm : List UInt8} {a : Option Addr} {n c : Nat} {mn mx : Int} (h : BK b 6 (nE op ra rn rc nm a n c mn mx) W) :
  W.cell? ⟨b, 0, none⟩ = some (.int .i64 op) ∧ W.cell? ⟨b, 1, none⟩ = some (.slice ra rn rc) ∧ W.cell? ⟨b, 2, none⟩ = some (.string ⟨nm.toArray⟩) ∧ W.cell? ⟨b, 3, none⟩ = some (.slice a n c) ∧ W.cell? ⟨b, 4, none⟩ = some (.int .i64 mn) ∧ W.cell? ⟨b, 5, none⟩ = some (.int .i64 mx) :=
 ⟨h.ev 0 (by omega), h.ev 1 (by omega), h.ev 2 (by omega), h.ev 3 (by omega), h.ev 4 (by omega), h.ev 5 (by omega)⟩
structure PA (b : Nat) (l : List UInt8) (i : Nat) (w : World) (q : Nat) (E : Nat → Value) (t : NT) (v : Value) (W : World) : Prop where
 pr : PR b l i w W
 bk : BK q 6 E W
 ng : NG (fun k => w.heap.size < k) W t v
 hq : w.heap.size < q
theorem PA.go {b : Nat} {l : List UInt8} {i j : Nat} {w : World} {q : Nat} {E : Nat → Value} {t : NT} {v : Value} {W W' : World} (h : PA b l i w q E t v W) (k : PQ b l j W W') : PA b l j w q E t v W' := ⟨h.pr.go k, h.bk.go k.ap (by have := h.pr.hb; have := h.hq; omega), h.ng.pq k (Nat.le_of_lt h.pr.hb), h.hq⟩
theorem PA.start {b : Nat} {l : List UInt8} {j : Nat} {w W : World} {t : NT} {op : Int} {ra : Option Addr} {rn rc : Nat} {nm : List UInt8} {a : Option Addr} {n c : Nat} {mn mx : Int} (h : PR b l j w W) (hT : NG (fun k => w.heap.size < k) W t (.agg #[.int .i64 op, .slice ra rn rc, .string ⟨nm.toArray⟩, .slice a n c, .int .i64 mn, .int .i64 mx])) :
  PA b l j w W.heap.size (nE op ra rn rc nm a n c mn mx) t (.agg #[.int .i64 op, .slice ra rn rc, .string ⟨nm.toArray⟩, .slice a n c, .int .i64 mn, .int .i64 mx]) (W.alloc (.cells #[.int .i64 op, .slice ra rn rc, .string ⟨nm.toArray⟩, .slice a n c, .int .i64 mn, .int .i64 mx] 33)) :=
 ⟨h.on (al_below W _), nE_new W op ra rn rc nm a n c mn mx, hT.low (al_below W _), h.sz⟩
end Go.Proofs.YtmpbjaodgajnfaaGreatDoor
namespace Go.Proofs.YtmpbjaodgajnfaaGreatDoor
open Go.RowKit
end Go.Proofs.YtmpbjaodgajnfaaGreatDoor
namespace Go.Proofs.YtmpbjaodgajnfaaGreatDoor
open Go.RowKit
structure SL (b : Nat) (l : List UInt8) (i : Nat) (w : World) (kids : List NT) (v : Value) (W : World) : Prop where
 pr : PR b l i w W
 row : OR (w.heap.size + 1) 33 6 (KR (FF (fun k => w.heap.size < k) v) W) W kids v
section
variable {b i j : Nat} {l : List UInt8} {w W W' : World} {kids : List NT} {v x : Value} {t : NT}
theorem SL.start (h : PR b l i w W) : SL b l i w [] (.slice none 0 0) W := ⟨h, OR.nil⟩
theorem SL.go (h : SL b l i w kids v W) (k : PQ b l j W W') : SL b l j w kids v W' :=
 ⟨h.pr.go k, h.row.keep (fun m h1 h2 => k.ap.block (by have := h.pr.hb; omega) h2) (fun _ _ hx => KR.go ⟨k.ap.1.size, fun m hm hl => ⟨hm, k.ap.block (by have := h.pr.hb; have := hm.1; omega) hl⟩⟩ _ _ hx)⟩
theorem SL.new (h : SL b l i w kids v W) (hT : NG (fun k => W.heap.size ≤ k) W' t x) : NG (FF (fun k => w.heap.size < k) v) W' t x :=
 NG.go ⟨Nat.le_refl _, fun k hk _ => ⟨⟨Nat.lt_of_lt_of_le h.pr.sz hk, fun e => by have := (h.row.lt e).2; omega⟩, rfl⟩⟩ _ _ hT
theorem SL.push {o : Obj} {g' cap H : Nat} {W5 : World} (h : SL b l i w kids v W) (cs : List Value) (hown : W.ownsRow (w.heap.size + 1) 33 6 v kids.length cs)
  (hpush : ∀ (R' : NT → List Value → Prop) (W' : World) (x : NT) (us : List Value) (v' : Value), (∀ x us, KR (FF (fun k => w.heap.size < k) v) W x us → R' x us) → us.length = 6 → R' x us → kids.length + 1 ≤ 1000000 → W'.ownsRow (w.heap.size + 1) 33 6 v' (kids.length + 1) (cs ++ us) → OR (w.heap.size + 1) 33 6 R' W' (kids ++ [x]) v')
  (hgr : (W.alloc o).grownBy W5 v.ownBlock) (hat : v.ownBlock = some g' ∨ g' = H) (hH : H = (W.alloc o).heap.size) (us : List Value) (hu : us.length = 6) (hx : KR (FF (fun k => w.heap.size < k) v) W t us) (hl : kids.length + 1 ≤ 1000000)
  (ho : W5.ownsRow (w.heap.size + 1) 33 6 (.slice (some ⟨g', 0, none⟩) (kids.length + 1) cap) (kids.length + 1) (cs ++ us)) : SL b l i w (kids ++ [t]) (.slice (some ⟨g', 0, none⟩) (kids.length + 1) cap) W5 := by
 have hB := push_below hgr hown h.pr.sz
 have hst := push_stay (G := fun k => w.heap.size < k) (n := kids.length + 1) (cap := cap) hgr (hat.imp id (fun e => by rw [e, hH]; simp))
 exact ⟨h.pr.far hB, hpush _ _ t us _ (fun _ _ h => KR.go hst _ _ h) hu (KR.go hst _ _ hx) hl ho⟩
theorem SL.rows (h : SL b l i w kids v W) : RW (fun k => w.heap.size + 1 ≤ k) 6 (KR (fun k => w.heap.size + 1 ≤ k) W) W kids v :=
 (h.row.rw (F := fun k => w.heap.size + 1 ≤ k) (fun _ h => h)).go ⟨Nat.le_refl _, fun _ hk _ => ⟨hk, rfl⟩⟩ (fun _ _ h => KR.go ⟨Nat.le_refl _, fun _ hk _ => ⟨hk.1, rfl⟩⟩ _ _ h)
end
end Go.Proofs.YtmpbjaodgajnfaaGreatDoor
namespace Go.Proofs.YtmpbjaodgajnfaaGreatDoor
open Go.RowKit
theorem SL.lit {b i : Nat} {l : List UInt8} {w W : World} {t : NT} (h : PR b l i w W) (us : List Value) (hu : us.length = 6) (hT : KR (fun k => w.heap.size < k) W t us) : SL b l i w [t] (.slice (some ⟨W.heap.size, 0, none⟩) 1 1) (W.alloc (.cells us.toArray 33)) :=
 ⟨h.on (al_below W _), OR.lit W t us h.sz hu (KR.go ⟨(al_below W _).size, fun k hk hl => ⟨⟨hk, fun e => by simp only [Value.ownBlock, Option.some.injEq] at e; omega⟩, (al_below W _).block k hl⟩⟩ _ _ hT)⟩
end Go.Proofs.YtmpbjaodgajnfaaGreatDoor
namespace Go.Proofs.YtmpbjaodgajnfaaGreatDoor
open Go.RowKit
theorem results_item3 {P : Program} {fn : Func} {p t u : Tmp} {ty : TypeId} (h : fn.results = #[.cell p ty, .tmp t, .tmp u]) (tmps : Array Value) (w : World) (g : Nat) (cs : List Value) (d : TypeDesc)
  (hp : tmps.getD p undef = .pointer (some ⟨g, 0, none⟩)) (hc : ∀ j v, cs[j]? = some v → w.cell? ⟨g, j, none⟩ = some v)
  (hu : P.underlying ty = some d) (hd : (match d with | .struct _ | .array _ _ => true | _ => false) = true) (hi : (P.info? ty).map (·.size) = some cs.length) :
  (results fn tmps).run P w = .ok (.tuple #[.agg cs.toArray, tmps.getD t undef, tmps.getD u undef]) w := by
 have hl : (loadCells ⟨g, 0, none⟩ cs.length).run P w = .ok cs.toArray w :=
  run_loadCells_list (P := P) w ⟨g, 0, none⟩ cs (fun j v hv => by
   have hadd : (⟨g, 0, none⟩ : Addr).add j = ⟨g, j, none⟩ := by unfold Addr.add; split <;> simp_all
   rw [hadd]
   exact hc j v hv)
 have hv : (loadVar ty ⟨g, 0, none⟩).run P w = .ok (.agg cs.toArray) w := by
  cases hq : P.info? ty with
  | none => simp [hq] at hi
  | some i =>
   have hs : i.size = cs.length := by simpa [hq] using hi
   have hagg : (isAgg ty).run P w = .ok true w := by
    unfold isAgg
    rw [Sem.run_bind, run_underlying hu w]
    cases d <;> simp_all
   simp [loadVar, Sem.run_bind, hagg, sizeOf, typeInfo, hq, hs, hl]
 have hp' : tmps[p]?.getD undef = .pointer (some ⟨g, 0, none⟩) := by simpa using hp
 simp [results, h, hp', asAddr, hv]
theorem item_ret3 {fn : Func} {P t u : Tmp} (hfn : fn.results = #[.cell P 33, .tmp t, .tmp u]) {W : World} {b : Nat} {E : Nat → Value} (hS : BK b 6 E W) {tmps : Array Value} {df : _} (hdf : df = []) (hp : tmps.getD P undef = .pointer (some ⟨b, 0, none⟩)) {v0 v1 v2 v3 v4 v5 : Value} {post : Ending → World → Prop}
  (h : post (.returned (.tuple #[.agg #[v0, v1, v2, v3, v4, v5], tmps.getD t undef, tmps.getD u undef])) (setL W b [v0, v1, v2, v3, v4, v5] 0)) :
  bodyPost Tryz.prog fn post Exit.ret { tmps := tmps, defers := df } (setL W b [v0, v1, v2, v3, v4, v5] 0) := by
 have hc := setL_at (b := b) [v0, v1, v2, v3, v4, v5] W 0 (fun j _ hj => ⟨_, hS.ev j (by simpa using hj)⟩)
 exact bodyPost_ret (results_item3 (ty := 33) hfn tmps _ b [v0, v1, v2, v3, v4, v5] _ hp (fun j v hv => by have := hc j v hv; rwa [Nat.zero_add] at this) Tryz.underlying33 rfl (by kernel_rfl)) hdf h
end Go.Proofs.YtmpbjaodgajnfaaGreatDoor
namespace Go.Proofs.YtmpbjaodgajnfaaGreatDoor
open Go.RowKit
theorem rngs_skip (f : Nat → Bool) (hi : Nat) (hhi : hi ≤ 256) : ∀ lo, lo ≤ hi → (∀ j, lo ≤ j → j < hi → f j = false) → rngs f lo = rngs f hi := by
 intro lo h1 h2
 obtain ⟨n, hn⟩ : ∃ n, hi - lo = n := ⟨_, rfl⟩
 induction n generalizing lo with
 | zero => rw [show lo = hi by omega]
 | succ n ih => rw [rngs_off f lo (by omega) (h2 lo (Nat.le_refl _) (by omega)), ih (lo + 1) (by omega) (fun j h3 h4 => h2 j (by omega) h4) (by omega)]
theorem runTo_all (f : Nat → Bool) (hi : Nat) (hhi : hi < 256) (hend : hi + 1 < 256 → f (hi + 1) = false) : ∀ lo, lo ≤ hi → (∀ j, lo < j → j ≤ hi → f j = true) → runTo f lo = hi := by
 intro lo h1 h2
 obtain ⟨n, hn⟩ : ∃ n, hi - lo = n := ⟨_, rfl⟩
 induction n generalizing lo with
 | zero => rw [show lo = hi by omega]; exact runTo_off f hi hend
 | succ n ih => rw [← runTo_on f lo (by omega) (h2 (lo + 1) (by omega) (by omega)), ih (lo + 1) (by omega) (fun j h3 h4 => h2 j (by omega) h4) (by omega)]
theorem rngs_one (f : Nat → Bool) (lo hi : Nat) (h : lo ≤ hi) (h2 : hi < 256) (hf : ∀ j, j < 256 → (f j = true ↔ lo ≤ j ∧ j ≤ hi)) : rngs f 0 = [(UInt8.ofNat lo, UInt8.ofNat hi)] := by
 have hno : ∀ j, j < 256 → ¬ (lo ≤ j ∧ j ≤ hi) → f j = false := fun j hj hn => by cases hh : f j with | false => rfl | true => exact absurd ((hf j hj).1 hh) hn
 rw [rngs_skip f lo (by omega) 0 (Nat.zero_le _) (fun j _ hj => hno j (by omega) (by omega)), rngs_on f lo (by omega) ((hf lo (by omega)).2 ⟨Nat.le_refl _, h⟩),
  runTo_all f hi h2 (fun h3 => hno _ h3 (by omega)) lo h (fun j h3 h4 => (hf j (by omega)).2 ⟨by omega, h4⟩), rngs_skip f 256 (Nat.le_refl _) (hi + 1) (by omega) (fun j h3 h4 => hno j h4 (by omega))]
 rw [rngs, dif_neg (by omega)]
theorem rngs_d : rngs Asc.isDigit 0 = [(48, 57)] := rngs_one _ 48 57 (by omega) (by omega) (fun j _ => by unfold Asc.isDigit; simp)
theorem rngs_c (c : UInt8) : rngs (spanF c.toNat (c.toNat + 1)) 0 = [(c, c)] := by
 have := UInt8.toNat_lt c
 rw [rngs_one _ c.toNat c.toNat (Nat.le_refl _) this (fun j _ => by unfold spanF; simp; omega)]
 simp
end Go.Proofs.YtmpbjaodgajnfaaGreatDoor

/-
 Joined: EgI.
-/
import Derived.Test.YtmpbjaodgajnfaaGreatDoorEhO
import Derived.Test.YtmpbjaodgajnfaaGreatDoorEhU
import Derived.BigQuiet
namespace Go.Proofs.YtmpbjaodgajnfaaGreatDoor
open Go.RowKit
theorem flat_take {k : Nat} : ∀ (uss : List (List Value)) (i : Nat), (∀ u ∈ uss, u.length = k) → i ≤ uss.length → (uss.take i).flatten = uss.flatten.take (i * k) ∧ (uss.drop i).flatten = uss.flatten.drop (i * k)
 | _, 0, _, _ => by simp
 | [], i + 1, _, h => absurd h (by simp)
 | u :: uss, i + 1, h, hi => by
  have hu := h u List.mem_cons_self
  obtain ⟨h1, h2⟩ := flat_take uss i (fun x hx => h x (List.mem_cons_of_mem _ hx)) (by simpa using hi)
  have e : (i + 1) * k = u.length + i * k := by rw [hu, Nat.succ_mul, Nat.add_comm]
  rw [List.take_succ_cons, List.drop_succ_cons, List.flatten_cons, List.flatten_cons, h1, h2, e, List.take_length_add_append, List.drop_length_add_append]
  exact ⟨rfl, rfl⟩
theorem infoEv3 : (Tryz.prog.info? 44).map (fun i => (i.zero, i.size, i.bytes)) = some (some (.agg (evC ev0)), 10, 128) := by kernel_rfl
theorem OR.evm {B : Nat} {es : List Ev} {g n c : Nat} {w : World} (h : OR B 44 10 EvR w es (.slice (some ⟨g, 0, none⟩) n c)) : ∀ p (hp : p < es.length) j, j < 10 → w.cell? ⟨g, p * 10 + j, none⟩ = (evC es[p]).toList[j]? := by
 obtain ⟨a, c', e, _, hk⟩ := h.rw (F := fun _ => True) (fun _ _ => trivial)
 intro p hp j hj
 obtain ⟨blk, off, e1, _, _, hc⟩ := hk (by omega)
 injection e with e2 e3 e4
 have e5 := e2.trans e1
 injection e5 with e6
 injection e6 with e7 e8
 subst e7 e8
 obtain ⟨us, _, hcell, hr⟩ := hc p hp
 rw [← hr, ← hcell j hj, Nat.zero_add]
theorem OR.base {α : Type} {B B' : Nat} {e : TypeId} {k : Nat} {R : α → List Value → Prop} {W : World} {xs : List α} {v : Value} (h : OR B e k R W xs v) (hB : B' ≤ B) : OR B' e k R W xs v := by
 obtain ⟨⟨uss, h1, h2, h3, h4 | ⟨g, cap, cur, h5, h6, h7⟩⟩, h8⟩ := h
 ·exact ⟨⟨uss, h1, h2, h3, .inl h4⟩, h8⟩
 ·exact ⟨⟨uss, h1, h2, h3, .inr ⟨g, cap, cur, h5, Nat.le_trans hB h6, h7⟩⟩, h8⟩
theorem OR.made {B : Nat} {W : World} {es : List Ev} {uss : List (List Value)} {v : Value} (hl : uss.length = es.length) (hs : es.length ≤ 1000000) (he : ∀ i (h : i < es.length) (h' : i < uss.length), uss[i].length = 10 ∧ EvR es[i] uss[i]) (ho : W.ownsRow B 44 10 v es.length uss.flatten) : OR B 44 10 EvR W es v := ⟨⟨uss, hl, he, ho⟩, hs⟩
theorem ins_rel {es : List Ev} {uss : List (List Value)} (hl : uss.length = es.length) (he : ∀ i (h : i < es.length) (h' : i < uss.length), uss[i].length = 10 ∧ EvR es[i] uss[i]) (x : Ev) (k : Nat) (hk : k ≤ es.length) :
  (uss.take k ++ (evC x).toList :: uss.drop k).length = (es.take k ++ x :: es.drop k).length ∧ ∀ i (h : i < (es.take k ++ x :: es.drop k).length) (h' : i < (uss.take k ++ (evC x).toList :: uss.drop k).length), (uss.take k ++ (evC x).toList :: uss.drop k)[i].length = 10 ∧ EvR (es.take k ++ x :: es.drop k)[i] (uss.take k ++ (evC x).toList :: uss.drop k)[i] := by
 have h1 : (uss.take k).length = k := by rw [List.length_take]; omega
 have h2 : (es.take k).length = k := by rw [List.length_take]; omega
 refine ⟨by simp [hl], fun i h h' => ?_⟩
 by_cases c : i < k
 ·rw [List.getElem_append_left (by omega), List.getElem_append_left (by omega), List.getElem_take, List.getElem_take]
  exact he i (by omega) (by omega)
 ·rw [List.getElem_append_right (by omega), List.getElem_append_right (by omega)]
  simp only [h1, h2]
  rcases Nat.eq_or_lt_of_le (Nat.le_of_not_lt c) with e | e
  ·subst e
   simp only [Nat.sub_self, List.getElem_cons_zero]
   exact ⟨rfl, rfl⟩
  ·obtain ⟨d, hd⟩ : ∃ d, i - k = d + 1 := ⟨i - k - 1, by omega⟩
   simp only [hd, List.getElem_cons_succ, List.getElem_drop]
   simp only [List.length_append, List.length_cons, List.length_drop, h2] at h
   exact he (k + d) (by omega) (by omega)
theorem ins_one {es : List Ev} {uss : List (List Value)} (hl : uss.length = es.length) (he : ∀ i (h : i < es.length) (h' : i < uss.length), uss[i].length = 10 ∧ EvR es[i] uss[i]) (hok : ∀ x ∈ es, x.Ok) : ∀ u ∈ uss.flatten, u.oneCell' = true := by
 intro u hu
 obtain ⟨us, hus, hu'⟩ := List.mem_flatten.1 hu
 obtain ⟨i, hi, rfl⟩ := List.getElem_of_mem hus
 have := (he i (by omega) hi).2
 unfold EvR at this
 rw [this] at hu'
 exact evC_one (hok _ (List.getElem_mem _)) u hu'
theorem ins_first {N : Nat} {es : List Ev} {uss : List (List Value)} (hl : uss.length = es.length) (he : ∀ i (h : i < es.length) (h' : i < uss.length), uss[i].length = 10 ∧ EvR es[i] uss[i]) (hok : ∀ x ∈ es, x.Ok) {g cap : Nat} {cur : Array Value} {Wp : World}
  (hg : Wp.heap[g]? = some (.cells cur 44 (0, 0))) (hcs : cur.size = cap * 10) (htk : cur.toList.take (es.length * 10) = uss.flatten) (hn : es.length ≤ 1000) (hnc : es.length ≤ cap) (k : Nat) (hk : k ≤ es.length) (hN : N ≤ Wp.heap.size) :
  ∃ vA Wa, (Builtin.append_ #[26, 26] 26 #[.slice none 0 0, .slice (some ⟨g, 0, none⟩) k cap]).run Tryz.prog Wp = .ok vA Wa ∧ Wa.ownsRow N 44 10 vA k (cur.toList.take (k * 10)) ∧ Below N Wp Wa := by
 obtain ⟨i0, hi, hz0, hz1, hz2⟩ := info_parts infoEv3
 have hle : k * 10 ≤ es.length * 10 := Nat.mul_le_mul_right _ hk
 have hone := ins_one hl he hok
 obtain ⟨vA, Wa, hr, ho, hgr, _, _⟩ := run_append_own2 (P := Tryz.prog) (w := Wp) N 26 26 44 i0 (.agg (evC ev0)) 10 128 Tryz.underlying26 hi hz0 hz1 hz2 rfl (by decide) (.slice none 0 0) 0 [] (World.ownsRow_nil Wp _ _ _) ⟨g, 0, none⟩ k cap (cur.toList.take (k * 10))
  (by rw [List.length_take, Array.length_toList, hcs]; omega)
  (by
   intro j u hj
   have h1 := World.news_of_block hg j u (by
    have := List.getElem?_eq_some_iff.1 hj
    obtain ⟨h2, h3⟩ := this
    rw [List.getElem_take] at h3
    exact List.getElem?_eq_some_iff.2 ⟨_, h3⟩)
   exact h1)
  (by
   intro u hu
   refine hone u ?_
   rw [← htk]
   have : cur.toList.take (k * 10) = (cur.toList.take (es.length * 10)).take (k * 10) := by rw [List.take_take, Nat.min_eq_left hle]
   rw [this] at hu
   exact List.mem_of_mem_take hu) (by unfold maxLen; omega) (by omega) hN
 rw [Nat.zero_add, List.nil_append] at ho
 exact ⟨vA, Wa, hr, ho, (Below.refl N Wp).grown hgr hN (fun b hb => by cases hb)⟩
theorem ins_runs {N : Nat} {es : List Ev} {uss : List (List Value)} (hl : uss.length = es.length) (he : ∀ i (h : i < es.length) (h' : i < uss.length), uss[i].length = 10 ∧ EvR es[i] uss[i]) (hok : ∀ x ∈ es, x.Ok) {g cap : Nat} {cur : Array Value} {Wq : World}
  (hg : Wq.heap[g]? = some (.cells cur 44 (0, 0))) (hgN : g < N) (hcs : cur.size = cap * 10) (htk : cur.toList.take (es.length * 10) = uss.flatten) (hn : es.length ≤ 1000) (hnc : es.length ≤ cap) (k : Nat) (hk : k ≤ es.length) (hN : N ≤ Wq.heap.size)
  (vA : Value) (hA : Wq.ownsRow N 44 10 vA k (cur.toList.take (k * 10))) (E : Ev) (hE : E.Ok) (ad : Addr) (had : k < es.length → ad = ⟨g, k * 10, none⟩) (m : Nat) (hm : m + k = es.length) (cc : Nat) :
  ∃ a1 c1 We v2 Wf, (Builtin.append_ #[26, 26] 26 #[vA, .slice (some ⟨Wq.heap.size, 0, none⟩) 1 1]).run Tryz.prog (Wq.drew.alloc (.cells (evC E) 44)) = .ok (.slice a1 (k + 1) c1) We ∧
   (Builtin.append_ #[26, 26] 26 #[.slice a1 (k + 1) c1, .slice (some ad) m cc]).run Tryz.prog We = .ok v2 Wf ∧ OR N 44 10 EvR Wf (es.take k ++ E :: es.drop k) v2 ∧ Below N Wq Wf := by
 obtain ⟨i0, hi, hz0, hz1, hz2⟩ := info_parts infoEv3
 have hone := ins_one hl he hok
 obtain ⟨Wd, hWd⟩ : ∃ Wd, Wq.drew.alloc (.cells (evC E) 44) = Wd := ⟨_, rfl⟩
 have hdb : Below Wq.heap.size Wq Wd := by rw [← hWd]; exact (Below.refl Wq.heap.size Wq).drew.alloc (Nat.le_refl _) _
 have hds : Wd.heap.size = Wq.heap.size + 1 := by rw [← hWd, Deep.nblk_alloc]; rfl
 have hnb : Wd.heap[Wq.heap.size]? = some (.cells (evC E) 44 (0, 0)) := by rw [← hWd]; exact Deep.blk_alloc_new Wq.drew _
 have hownd := own_block hA fun b hb => hdb.block b (own_lt hA hb)
 obtain ⟨v1, We, hr1, ho1, hgr1, _, hnew1⟩ := run_append_own2 (P := Tryz.prog) (w := Wd) N 26 26 44 i0 (.agg (evC ev0)) 10 128 Tryz.underlying26 hi hz0 hz1 hz2 rfl (by decide) vA k _ hownd ⟨Wq.heap.size, 0, none⟩ 1 1 (evC E).toList rfl (World.news_of_block hnb) (evC_one hE) (by unfold maxLen; omega) (by omega) (by omega)
 obtain ⟨a1, c1, h1⟩ : ∃ a c, v1 = .slice a (k + 1) c := by
  obtain ⟨_, ⟨h1, h2⟩ | ⟨q, cap, cur, h1, _⟩⟩ := ho1
  ·omega
  ·exact ⟨_, _, h1⟩
 subst h1
 have hB1 : Below N Wq We := (hdb.mono hN).grown hgr1 (by omega) (fun b hb => by
  obtain ⟨_, ⟨h1, h2⟩ | ⟨q, cap, cur, h1, hq, _⟩⟩ := hA
  ·subst h1; cases hb
  ·subst h1; cases hb; exact hq)
 have hge : We.heap[g]? = some (.cells cur 44 (0, 0)) := (hB1.block g hgN).trans hg
 have hcl : (cur.toList.take (es.length * 10)).length = es.length * 10 := by
  have h3 : cur.toList.length = cap * 10 := by simpa using hcs
  rw [List.length_take, h3]
  omega
 obtain ⟨v2, Wf, hr2, ho2, hgr2, _, _⟩ := run_append_own2 (P := Tryz.prog) (w := We) N 26 26 44 i0 (.agg (evC ev0)) 10 128 Tryz.underlying26 hi hz0 hz1 hz2 rfl (by decide) (.slice a1 (k + 1) c1) (k + 1) _ ho1 ad m cc ((cur.toList.take (es.length * 10)).drop (k * 10))
  (by rw [List.length_drop, hcl]; omega)
  (by
   intro j u hj
   have hjl : j < (es.length * 10) - k * 10 := by
    obtain ⟨h2, _⟩ := List.getElem?_eq_some_iff.1 hj
    rwa [List.length_drop, hcl] at h2
   rw [had (by omega), show (⟨g, k * 10, none⟩ : Addr).add j = ⟨g, k * 10 + j, none⟩ by unfold Addr.add; split <;> simp_all, Lib.cell_of_heap hge]
   rw [List.getElem?_drop, List.getElem?_take_of_lt (by omega)] at hj
   rw [← hj]
   simp)
  (fun u hu => hone u (by rw [← htk]; exact List.mem_of_mem_drop hu)) (by unfold maxLen; omega) (by omega) (Nat.le_trans hN hB1.size)
 refine ⟨a1, c1, We, v2, Wf, by rw [hWd]; exact hr1, hr2, ?_, hB1.grown hgr2 (Nat.le_trans hN hB1.size) (fun b hb => (hnew1 b hb).elim (fun h => ?_) (fun h => by omega))⟩
 ·obtain ⟨hq1, hq2⟩ := ins_rel hl he E k hk
  have hlen : ∀ u ∈ uss, u.length = 10 := fun u hu => by
   obtain ⟨i, hi, rfl⟩ := List.getElem_of_mem hu
   exact (he i (by omega) hi).1
  obtain ⟨f1, f2⟩ := flat_take uss k hlen (by omega)
  have hle : k * 10 ≤ es.length * 10 := Nat.mul_le_mul_right _ hk
  have e1 : (uss.take k ++ (evC E).toList :: uss.drop k).flatten = cur.toList.take (k * 10) ++ (evC E).toList ++ (cur.toList.take (es.length * 10)).drop (k * 10) := by
   rw [List.flatten_append, List.flatten_cons, f1, f2, ← htk, List.take_take, Nat.min_eq_left hle, List.append_assoc]
  have e2 : (es.take k ++ E :: es.drop k).length = k + 1 + m := by
   rw [List.length_append, List.length_cons, List.length_take, List.length_drop]; omega
  refine OR.made hq1 (by rw [e2]; omega) hq2 ?_
  rw [e1, e2]
  exact ho2
 ·obtain ⟨_, ⟨h1, h2⟩ | ⟨q, cap, cur, h1, hq, _⟩⟩ := hA
  ·subst h1; cases h
  ·subst h1; cases h; exact hq
theorem ins_none {N : Nat} {Wq : World} (hN : N ≤ Wq.heap.size) (E : Ev) (hE : E.Ok) :
  ∃ a1 c1 We, 1 ≤ c1 ∧ (Builtin.append_ #[26, 26] 26 #[.slice none 0 0, .slice (some ⟨Wq.heap.size, 0, none⟩) 1 1]).run Tryz.prog (Wq.drew.alloc (.cells (evC E) 44)) = .ok (.slice (some a1) 1 c1) We ∧
   OR N 44 10 EvR We [E] (.slice (some a1) 1 c1) ∧ Below N Wq We := by
 obtain ⟨i0, hi, hz0, hz1, hz2⟩ := info_parts infoEv3
 obtain ⟨Wd, hWd⟩ : ∃ Wd, Wq.drew.alloc (.cells (evC E) 44) = Wd := ⟨_, rfl⟩
 have hdb : Below Wq.heap.size Wq Wd := by rw [← hWd]; exact (Below.refl Wq.heap.size Wq).drew.alloc (Nat.le_refl _) _
 have hds : Wd.heap.size = Wq.heap.size + 1 := by rw [← hWd, Deep.nblk_alloc]; rfl
 have hnb : Wd.heap[Wq.heap.size]? = some (.cells (evC E) 44 (0, 0)) := by rw [← hWd]; exact Deep.blk_alloc_new Wq.drew _
 obtain ⟨v1, We, hr1, ho1, hgr1, _, _⟩ := run_append_own2 (P := Tryz.prog) (w := Wd) N 26 26 44 i0 (.agg (evC ev0)) 10 128 Tryz.underlying26 hi hz0 hz1 hz2 rfl (by decide) (.slice none 0 0) 0 [] (World.ownsRow_nil Wd _ _ _) ⟨Wq.heap.size, 0, none⟩ 1 1 (evC E).toList rfl (World.news_of_block hnb) (evC_one hE) (by unfold maxLen; omega) (by omega) (by omega)
 obtain ⟨a1, c1, h1, hc1⟩ : ∃ a c, v1 = .slice (some a) 1 c ∧ 1 ≤ c := by
  obtain ⟨_, ⟨h1, h2⟩ | ⟨q, cap, cur, h1, _, _, h2, _⟩⟩ := ho1
  ·omega
  ·exact ⟨_, _, h1, by omega⟩
 subst h1
 refine ⟨a1, c1, We, hc1, by rw [hWd]; exact hr1, OR.made (uss := [(evC E).toList]) rfl (by simp) (fun i h h' => ?_) (by simpa using ho1), (hdb.mono hN).grown hgr1 (by omega) (fun b hb => by cases hb)⟩
 obtain rfl : i = 0 := by simp at h; exact h
 exact ⟨rfl, rfl⟩
set_option maxHeartbeats 16000000 in
set_option maxRecDepth 1000000 in
theorem insert_any {B : Nat} (es : List Ev) (x0 x1 x2 x3 x5 x6 : Int) (x7 x8 : List UInt8) (a4 a9 : Option Addr) (n4 c4 n9 c9 : Nat) (lv : Value) (w : World) (hl : OR B 44 10 EvR w es lv) (hn : es.length ≤ 1000) (hok : ∀ x ∈ es, x.Ok) :
  Calls Tryz.prog 23 #[lv, .agg #[.int .i64 x0, .int .i64 x1, .int .i64 x2, .int .i64 x3, .slice a4 n4 c4, .int .i64 x5, .int .i64 x6, .string ⟨x7.toArray⟩, .string ⟨x8.toArray⟩, .slice a9 n9 c9]] w fun en w' => ∃ i v, i ≤ es.length ∧ en = .returned v ∧
   OR w.heap.size 44 10 EvR w' (es.take i ++ (⟨x0, x1, x2, x3, .slice a4 n4 c4, x5, x6, x7, x8, .slice a9 n9 c9⟩ : Ev) :: es.drop i) v ∧ Below w.heap.size w w' := by
 obtain ⟨E, hE⟩ : ∃ E : Ev, (⟨x0, x1, x2, x3, .slice a4 n4 c4, x5, x6, x7, x8, .slice a9 n9 c9⟩ : Ev) = E := ⟨_, rfl⟩
 have hEc : evC E = #[.int .i64 x0, .int .i64 x1, .int .i64 x2, .int .i64 x3, .slice a4 n4 c4, .int .i64 x5, .int .i64 x6, .string ⟨x7.toArray⟩, .string ⟨x8.toArray⟩, .slice a9 n9 c9] := by rw [← hE]; rfl
 obtain ⟨W1, hW1⟩ : ∃ W1, w.alloc (.cells #[.int .i64 x0, .int .i64 x1, .int .i64 x2, .int .i64 x3, .slice a4 n4 c4, .int .i64 x5, .int .i64 x6, .string ⟨x7.toArray⟩, .string ⟨x8.toArray⟩, .slice a9 n9 c9] 44) = W1 := ⟨_, rfl⟩
 have hb1 : Below w.heap.size w W1 := by rw [← hW1]; exact (Below.refl _ _).alloc (Nat.le_refl _) _
 have hs1 : W1.heap.size = w.heap.size + 1 := by rw [← hW1]; exact Deep.nblk_alloc _ _
 have hx1 : W1.heap[w.heap.size]? = some (.cells #[.int .i64 x0, .int .i64 x1, .int .i64 x2, .int .i64 x3, .slice a4 n4 c4, .int .i64 x5, .int .i64 x6, .string ⟨x7.toArray⟩, .string ⟨x8.toArray⟩, .slice a9 n9 c9] 44 (0, 0)) := by rw [← hW1]; exact Deep.blk_alloc_new _ _
 have HX := Lib.hid (fun (W : World) (hb : Below W1.heap.size W1 W) => (hb.block _ (by omega : w.heap.size < W1.heap.size)).trans hx1)
 obtain ⟨n, hnn⟩ : ∃ n, es.length = n := ⟨_, rfl⟩
 have HN := Lib.hid hnn
 have HB1 := Lib.hid hb1
 have HS1 := Lib.hid hs1
 have HEC := Lib.hid hEc
 have HE := Lib.hid hE
 have HOK := Lib.hid hok
 rw [hE]
 clear hok hE hEc
 obtain ⟨⟨uss, hul, hue, hfl, ⟨h1, h2⟩ | ⟨g, cap, cur, h1, hB, hg, hnc, hcm, hcs, htk⟩⟩, _⟩ := id hl
 ·subst h1
  rw [h2] at hn hnn
  obtain rfl : es = [] := List.eq_nil_of_length_eq_zero h2
  clear hl hul hue hfl h2 hb1 hs1 hx1 hn hnn
  go_enter Tryz.func23, Tryz.ntmps23
  go_wp2_with fail
  go_loopw [5] (fun i wr => i = .int .i64 0 ∧ Hid (Below W1.heap.size W1 wr)) (fun _ _ => 0)
  case atStart => exact ⟨rfl, Lib.hid (Below.refl _ _)⟩
  case round =>
   obtain ⟨rfl, HB⟩ := hrel
   go_wp2_with fail
   go_quiet (fail)
   rename_i nq _ _ _ _ _ _ _ _
   have hbq := below_drewN HB.out nq
   have hxq := HX.out _ hbq
   have hEok : E.Ok := by rw [← HE.out]; exact ⟨rfl, rfl⟩
   obtain ⟨a1, c1, We, hc1, hr1, ho1, hb3⟩ := ins_none (N := w.heap.size + 1) (Wq := wr.drewN nq) (by have := hbq.size; have := HS1.out; omega) E hEok
   rw [HEC.out] at hr1
   have HO1 := Lib.hid ho1
   have HB3 := Lib.hid hb3
   have HBQ := Lib.hid hbq
   have e0 : (wr.drewN nq).cell? ⟨w.heap.size, 0, none⟩ = some (.int .i64 x0) := by rw [Lib.cell_of_heap hxq]; rfl
   have e1 : (wr.drewN nq).cell? ⟨w.heap.size, 1, none⟩ = some (.int .i64 x1) := by rw [Lib.cell_of_heap hxq]; rfl
   have e2 : (wr.drewN nq).cell? ⟨w.heap.size, 2, none⟩ = some (.int .i64 x2) := by rw [Lib.cell_of_heap hxq]; rfl
   have e3 : (wr.drewN nq).cell? ⟨w.heap.size, 3, none⟩ = some (.int .i64 x3) := by rw [Lib.cell_of_heap hxq]; rfl
   have e4 : (wr.drewN nq).cell? ⟨w.heap.size, 4, none⟩ = some (.slice a4 n4 c4) := by rw [Lib.cell_of_heap hxq]; rfl
   have e5 : (wr.drewN nq).cell? ⟨w.heap.size, 5, none⟩ = some (.int .i64 x5) := by rw [Lib.cell_of_heap hxq]; rfl
   have e6 : (wr.drewN nq).cell? ⟨w.heap.size, 6, none⟩ = some (.int .i64 x6) := by rw [Lib.cell_of_heap hxq]; rfl
   have e7 : (wr.drewN nq).cell? ⟨w.heap.size, 7, none⟩ = some (.string ⟨x7.toArray⟩) := by rw [Lib.cell_of_heap hxq]; rfl
   have e8 : (wr.drewN nq).cell? ⟨w.heap.size, 8, none⟩ = some (.string ⟨x8.toArray⟩) := by rw [Lib.cell_of_heap hxq]; rfl
   have e9 : (wr.drewN nq).cell? ⟨w.heap.size, 9, none⟩ = some (.slice a9 n9 c9) := by rw [Lib.cell_of_heap hxq]; rfl
   clear ho1 hb3 hbq hxq hEok
   generalize wr.drewN nq = Wq at *
   go_wp2_with fail
   go_region_law (first | (refine step_append_run (by rfl) _ _ _ (by rfl) _ _ _ (by rfl) (by rfl) hr1 ?_) | fail)
   all_goals
    go_wp2_with fail
    go_ret
    exact ⟨0, _, Nat.le_refl _, rfl, HO1.out.base (Nat.le_succ _), (HB1.out.trans (HBQ.out.mono (by have := HS1.out; omega))).trans (HB3.out.mono (Nat.le_succ _))⟩
 ·subst h1
  have hgl : g < w.heap.size := by
   rcases Nat.lt_or_ge g w.heap.size with c | c
   ·exact c
   ·rw [Array.getElem?_eq_none c] at hg; cases hg
  have HCE := Lib.hid (fun (W : World) (hb : Below W1.heap.size W1 W) p (hp : p < es.length) j (hj : j < 10) => (hb.cell (p := ⟨g, p * 10 + j, none⟩) (by show g < W1.heap.size; omega)).trans ((hb1.cell (p := ⟨g, p * 10 + j, none⟩) hgl).trans (hl.evm p hp j hj)))
  have HG := Lib.hid (fun (W : World) (hb : Below W1.heap.size W1 W) => (hb.block _ (by omega : g < W1.heap.size)).trans ((hb1.block _ hgl).trans hg))
  have HUL := Lib.hid hul
  have HUE := Lib.hid hue
  have HTK := Lib.hid htk
  have HCS := Lib.hid hcs
  have HGL := Lib.hid hgl
  rw [hnn] at hn hnc ⊢
  clear hl hul hue hfl hcs htk hg hnn hb1 hs1 hx1 hgl hB
  go_enter Tryz.func23, Tryz.ntmps23
  go_wp2_with fail
  go_loopw [5] (fun i wr => ∃ j : Nat, i = .int .i64 (j : Int) ∧ j ≤ n ∧ Hid (Below W1.heap.size W1 wr)) (fun i _ => (intOf i).toNat)
  case atStart => exact ⟨n, rfl, Nat.le_refl _, Lib.hid (Below.refl _ _)⟩
  case round =>
   obtain ⟨j, rfl, hj, HB⟩ := hrel
   go_upto_region 2 with fail
   go_cut [19] (fun b wx => ∃ c : Bool, b = .bool c ∧ (c = true → 0 < j) ∧ Hid (Below W1.heap.size W1 wx))
   case first =>
    cases j with
    | zero =>
     go_wp2_with fail
     go_quiet (fail)
     go_wp2_with fail
     go_meet
     exact ⟨false, rfl, nofun, Lib.hid (below_drewN HB.out _)⟩
    | succ p =>
     obtain ⟨q, hq⟩ : ∃ q, es[p]'(by rw [HN.out]; omega) = q := ⟨_, rfl⟩
     have hce := fun j hj => HCE.out wr HB.out p (by rw [HN.out]; omega) j hj
     simp only [hq] at hce
     have hxw := HX.out wr HB.out
     obtain ⟨y0, y1, y2, y3, ylv, y5, y6, y7, y8, yfv⟩ := q
     have HLS := Lib.hid (fun W => less_any ⟨x0, x1, x2, x3, .slice a4 n4 c4, x5, x6, x7, x8, .slice a9 n9 c9⟩ ⟨y0, y1, y2, y3, ylv, y5, y6, y7, y8, yfv⟩ W)
     have k0 := hce 0 (by decide)
     have k1 := hce 1 (by decide)
     have k2 := hce 2 (by decide)
     have k3 := hce 3 (by decide)
     have k4 := hce 4 (by decide)
     have k5 := hce 5 (by decide)
     have k6 := hce 6 (by decide)
     have k7 := hce 7 (by decide)
     have k8 := hce 8 (by decide)
     have k9 := hce 9 (by decide)
     have e0 : wr.cell? ⟨w.heap.size, 0, none⟩ = some (.int .i64 x0) := by rw [Lib.cell_of_heap hxw]; rfl
     have e1 : wr.cell? ⟨w.heap.size, 1, none⟩ = some (.int .i64 x1) := by rw [Lib.cell_of_heap hxw]; rfl
     have e2 : wr.cell? ⟨w.heap.size, 2, none⟩ = some (.int .i64 x2) := by rw [Lib.cell_of_heap hxw]; rfl
     have e3 : wr.cell? ⟨w.heap.size, 3, none⟩ = some (.int .i64 x3) := by rw [Lib.cell_of_heap hxw]; rfl
     have e4 : wr.cell? ⟨w.heap.size, 4, none⟩ = some (.slice a4 n4 c4) := by rw [Lib.cell_of_heap hxw]; rfl
     have e5 : wr.cell? ⟨w.heap.size, 5, none⟩ = some (.int .i64 x5) := by rw [Lib.cell_of_heap hxw]; rfl
     have e6 : wr.cell? ⟨w.heap.size, 6, none⟩ = some (.int .i64 x6) := by rw [Lib.cell_of_heap hxw]; rfl
     have e7 : wr.cell? ⟨w.heap.size, 7, none⟩ = some (.string ⟨x7.toArray⟩) := by rw [Lib.cell_of_heap hxw]; rfl
     have e8 : wr.cell? ⟨w.heap.size, 8, none⟩ = some (.string ⟨x8.toArray⟩) := by rw [Lib.cell_of_heap hxw]; rfl
     have e9 : wr.cell? ⟨w.heap.size, 9, none⟩ = some (.slice a9 n9 c9) := by rw [Lib.cell_of_heap hxw]; rfl
     simp only [evC, Nat.add_zero, List.getElem?_cons_zero, List.getElem?_cons_succ] at k0 k1 k2 k3 k4 k5 k6 k7 k8 k9
     have i1 : (p : Int) < (n : Int) := by omega
     have i2 : (0 : Int) ≤ (p : Int) := by omega
     have i3 : (0 : Int) < (p : Int) + 1 := by omega
     have i4 : IntKind.i64.wrap (p : Int) = (p : Int) := by rw [IntKind.wrap_i64]; omega
     clear hce hxw hq
     go_region_with (go_at_call 47; refine (HLS.out _).mono ?_; rintro en w2 ⟨⟨r, rfl⟩, hb2⟩)
     all_goals
      go_wp2_with fail
      go_meet
      exact ⟨r, rfl, fun _ => by omega, Lib.hid (by first | exact HB.out.trans (hb2.mono HB.out.size) | exact HB.out.drew.trans (hb2.mono HB.out.size))⟩
   case rest =>
    obtain ⟨c, rfl, hc, HBc⟩ := hcut
    cases c with
    | true =>
     have hj0 := hc rfl
     go_wp2_with fail
     go_roundw
     case rel => exact ⟨j - 1, by go_num, by omega, HBc⟩
     case measure => simp [intOf]; omega
    | false =>
     clear hc
     have hge := HG.out _ HBc.out
     obtain ⟨vA, Wa, hrA, hoA, hbA⟩ := ins_first (N := w.heap.size + 1) HUL.out HUE.out HOK.out hge HCS.out HTK.out (by rw [HN.out]; exact hn) (by rw [HN.out]; exact hnc) j (by rw [HN.out]; exact hj) (by have := HBc.out.size; have := HS1.out; omega)
     have HRA := Lib.hid hoA
     have HBA := Lib.hid hbA
     clear hoA hbA hge
     go_wp2_with (at_builtin; refine wpList_append_run rfl _ _ _ rfl _ _ _ rfl rfl hrA ?_)
     have hbq : Below (w.heap.size + 1) W1 Wa := by
      have := HBc.out
      rw [HS1.out] at this
      exact this.trans HBA.out
     have hbq' : Below W1.heap.size W1 Wa := by rw [HS1.out]; exact hbq
     have hxq := HX.out Wa hbq'
     have hge := HG.out Wa hbq'
     have hEok : E.Ok := by rw [← HE.out]; exact ⟨rfl, rfl⟩
     obtain ⟨ad, had⟩ : ∃ ad : Addr, (if j < cap then ⟨g, j * 10, none⟩ else ⟨g, 0, none⟩) = ad := ⟨_, rfl⟩
     obtain ⟨a1, c1, We, v2, Wf, hr1, hr2, ho1, hb3⟩ := ins_runs (N := w.heap.size + 1) HUL.out HUE.out HOK.out hge (by have := HGL.out; omega) HCS.out HTK.out (by rw [HN.out]; exact hn) (by rw [HN.out]; exact hnc) j (by rw [HN.out]; exact hj) (by have := hbq.size; have := HS1.out; omega) vA HRA.out E hEok ad (fun h => by rw [← had, if_pos (by have := HN.out; omega)]) (n - j) (by have := HN.out; omega) (cap - j)
     rw [HEC.out] at hr1
     have HO1 := Lib.hid ho1
     have HB3 := Lib.hid hb3
     have HBQ := Lib.hid hbq
     have e0 : Wa.cell? ⟨w.heap.size, 0, none⟩ = some (.int .i64 x0) := by rw [Lib.cell_of_heap hxq]; rfl
     have e1 : Wa.cell? ⟨w.heap.size, 1, none⟩ = some (.int .i64 x1) := by rw [Lib.cell_of_heap hxq]; rfl
     have e2 : Wa.cell? ⟨w.heap.size, 2, none⟩ = some (.int .i64 x2) := by rw [Lib.cell_of_heap hxq]; rfl
     have e3 : Wa.cell? ⟨w.heap.size, 3, none⟩ = some (.int .i64 x3) := by rw [Lib.cell_of_heap hxq]; rfl
     have e4 : Wa.cell? ⟨w.heap.size, 4, none⟩ = some (.slice a4 n4 c4) := by rw [Lib.cell_of_heap hxq]; rfl
     have e5 : Wa.cell? ⟨w.heap.size, 5, none⟩ = some (.int .i64 x5) := by rw [Lib.cell_of_heap hxq]; rfl
     have e6 : Wa.cell? ⟨w.heap.size, 6, none⟩ = some (.int .i64 x6) := by rw [Lib.cell_of_heap hxq]; rfl
     have e7 : Wa.cell? ⟨w.heap.size, 7, none⟩ = some (.string ⟨x7.toArray⟩) := by rw [Lib.cell_of_heap hxq]; rfl
     have e8 : Wa.cell? ⟨w.heap.size, 8, none⟩ = some (.string ⟨x8.toArray⟩) := by rw [Lib.cell_of_heap hxq]; rfl
     have e9 : Wa.cell? ⟨w.heap.size, 9, none⟩ = some (.slice a9 n9 c9) := by rw [Lib.cell_of_heap hxq]; rfl
     clear ho1 hb3 hbq hbq' hxq hge hEok hrA
     by_cases hjc : j < cap
     ·rw [if_pos hjc] at had
      subst had
      have hnj : ¬ (cap = j) := by omega
      go_wp2_with fail
      go_region_law (first | (refine step_append_run (by rfl) _ _ _ (by rfl) _ _ _ (by rfl) (by rfl) hr1 ?_) | (refine step_append_run (by rfl) _ _ _ (by rfl) _ _ _ (by rfl) (by rfl) hr2 ?_) | fail)
      all_goals
       go_wp2_with fail
       go_ret
       exact ⟨_, v2, hj, rfl, HO1.out.base (Nat.le_succ _), (HB1.out.trans (HBQ.out.mono (Nat.le_succ _))).trans (HB3.out.mono (Nat.le_succ _))⟩
     ·rw [if_neg hjc] at had
      subst had
      obtain rfl : j = n := by omega
      obtain rfl : cap = j := by omega
      simp only [Nat.sub_self] at hr2
      go_wp2_with fail
      go_region_law (first | (refine step_append_run (by rfl) _ _ _ (by rfl) _ _ _ (by rfl) (by rfl) hr1 ?_) | (refine step_append_run (by rfl) _ _ _ (by rfl) _ _ _ (by rfl) (by rfl) hr2 ?_) | fail)
      all_goals
       go_wp2_with fail
       go_ret
       exact ⟨_, v2, hj, rfl, HO1.out.base (Nat.le_succ _), (HB1.out.trans (HBQ.out.mono (Nat.le_succ _))).trans (HB3.out.mono (Nat.le_succ _))⟩
end Go.Proofs.YtmpbjaodgajnfaaGreatDoor

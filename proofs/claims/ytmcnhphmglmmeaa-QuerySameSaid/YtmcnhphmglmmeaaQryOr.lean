/-
  A row that came in grows: what the loop of Odd over the stages keeps.
-/
import Derived.Test.YtmcnhphmglmmeaaQryOq
namespace Go.Proofs.Ytmcnhphmglmmeaa
open Go.RowKit

/-- append at a row of a block of its own, and which cells stay. -/
theorem run_append_own2 {P : Program} {w : World} (base : Nat) (t ty e : TypeId) (i : TypeInfo) (z : Value) (size bytes : Nat) (ht : P.underlying t = some (.slice e)) (hi : P.info? e = some i) (hz : i.zero = some z)
    (hsize : i.size = size) (hby : i.bytes = bytes) (hzs : z.cells.size = size) (hsz : 0 < size)
    (v : Value) (n : Nat) (xs : List Value) (hown : w.ownsRow base e size v n xs)
    (ad : Addr) (m c : Nat) (news : List Value) (hl : news.length = m * size) (hnews : ∀ j u, news[j]? = some u → w.cell? (ad.add j) = some u) (h1 : ∀ u ∈ news, u.oneCell' = true)
    (h63 : n + m ≤ maxLen) (hbytes : (n + m) * bytes ≤ 140737488355328) (hbase : base ≤ w.heap.size) :
    ∃ v' w', (Builtin.append_ #[t, t] ty #[v, .slice (some ad) m c]).run P w = .ok v' w' ∧ w'.ownsRow base e size v' (n + m) (xs ++ news) ∧ w.grownBy w' v.ownBlock ∧
      (∀ k idx, k < w.heap.size → (v.ownBlock = some k → idx < n * size) → w'.cell? ⟨k, idx, none⟩ = w.cell? ⟨k, idx, none⟩) ∧ (∀ k, v'.ownBlock = some k → v.ownBlock = some k ∨ w.heap.size ≤ k) := by
  obtain ⟨v', w', hr, h2, h3, h4⟩ := run_append_own (P := P) w base t ty e i z size bytes ht hi hz hsize hby hzs hsz v n xs hown ad m c news hl hnews h1 h63 hbytes hbase
  have hcase : (∃ g cap, v = .slice (some ⟨g, 0, none⟩) n cap ∧ v' = .slice (some ⟨g, 0, none⟩) (n + m) cap ∧ w' = w.setCells g (0 + n * size) news) ∨ ((w.grownBy w' none) ∧ ∀ k, v'.ownBlock = some k → w.heap.size ≤ k) := by
    rcases hown.2 with ⟨rfl, rfl⟩ | ⟨g, cap, cur, rfl, hb, hg, hnc, hcm, hcs, htake⟩
    · right
      obtain ⟨v2, w2, hr2, h5, h6, _⟩ := run_append_own (P := P) w w.heap.size t ty e i z size bytes ht hi hz hsize hby hzs hsz (.slice none 0 0) 0 [] (World.ownsRow_nil w _ e size) ad m c news hl hnews h1 h63 hbytes (Nat.le_refl _)
      rw [hr] at hr2
      injection hr2 with e1 e2
      subst e1 e2
      exact ⟨h6, fun k hk => (h5.lt k hk).1⟩
    · by_cases hroom : n + m ≤ cap
      · left
        subst hsize
        have hcells : ∀ j, j < news.length → (w.cell? ⟨g, 0 + n * i.size + j, none⟩).isSome = true := fun j hj => by
          rw [cell_of_row w g _ cur e (0, 0) hg]
          have : 0 + n * i.size + j < cur.size := by
            rw [hcs]
            have h8 : (n + m) * i.size ≤ cap * i.size := Nat.mul_le_mul_right _ hroom
            rw [Nat.add_mul] at h8
            omega
          rw [Array.getElem?_eq_getElem this]
          rfl
        have hr2 := run_append_room_cells (P := P) w t ty e i ht hi g 0 n cap ad m c news hl hnews h1 hroom hcells (fun j _ => Lib.frozen_of_heap hg _)
        rw [hr] at hr2
        injection hr2 with e1 e2
        exact ⟨g, cap, rfl, e1, e2⟩
      · right
        have holds : ∀ j u, xs[j]? = some u → w.cell? ((⟨g, 0, none⟩ : Addr).add j) = some u := hown.cells rfl
        obtain ⟨v2, w2, hr2, h5, h6⟩ := run_append_arg_grows (P := P) w t ty e i z size bytes ht hi hz hsize hby hzs hsz ⟨g, 0, none⟩ n cap xs hown.1 holds ad m c news hl hnews (by omega) h63 hbytes
        rw [hr] at hr2
        injection hr2 with e1 e2
        subst e1 e2
        exact ⟨h6, fun k hk => (h5.lt k hk).1⟩
  refine ⟨v', w', hr, h2, h3, fun k idx hk hidx => ?_, fun k hk => ?_⟩
  · rcases hcase with ⟨g, cap, rfl, rfl, rfl⟩ | ⟨hg, _⟩
    · rw [setCells_setL]
      by_cases e : k = g
      · subst e
        exact setL_other _ _ _ _ (by have := hidx rfl; omega)
      · exact World.cell?_of_block (setL_heap _ e _ _)
    · exact World.cell?_of_block (hg.block k hk (by simp))
  · rcases hcase with ⟨g, cap, rfl, rfl, rfl⟩ | ⟨_, hg⟩
    · exact .inl hk
    · exact .inr (hg k hk)
theorem wpList_append_own2 {P : Program} (w : World) {ops : Array Oper} {rest : List Oper} {o : Oper} {a : Act} {Q : Exit → Act → World → Prop} (hgd : o.guard = none) (s x : Operand) (t : TypeId)
    (ho : o.op = .call { callee := .builtin .append, args := #[s, x], argTypes := #[t, t] })
    (base : Nat) (e : TypeId) (i : TypeInfo) (z : Value) (size bytes : Nat) (ht : P.underlying t = some (.slice e)) (hi : P.info? e = some i) (hz : i.zero = some z)
    (hsize : i.size = size) (hby : i.bytes = bytes) (hzs : z.cells.size = size) (hsz : 0 < size)
    (v : Value) (n : Nat) (xs : List Value) (hs : a.eval s = v) (hown : w.ownsRow base e size v n xs)
    (ad : Addr) (m c : Nat) (news : List Value) (hx : a.eval x = .slice (some ad) m c) (hl : news.length = m * size) (hnews : ∀ j u, news[j]? = some u → w.cell? (ad.add j) = some u) (h1 : ∀ u ∈ news, u.oneCell' = true)
    (h63 : n + m ≤ maxLen) (hbytes : (n + m) * bytes ≤ 140737488355328) (hbase : base ≤ w.heap.size)
    (h : ∀ v' w', w'.ownsRow base e size v' (n + m) (xs ++ news) → w.grownBy w' v.ownBlock → (∀ k idx, k < w.heap.size → (v.ownBlock = some k → idx < n * size) → w'.cell? ⟨k, idx, none⟩ = w.cell? ⟨k, idx, none⟩) → (∀ k, v'.ownBlock = some k → v.ownBlock = some k ∨ w.heap.size ≤ k) → wpList P ops Q rest (a.put o.dst v') w') : wpList P ops Q (o :: rest) a w := by
  refine wpList_plain hgd fun K hK' => ?_
  obtain ⟨v', w', hr, h2, h3, h4, h5⟩ := run_append_own2 (P := P) (w := w) base t o.type e i z size bytes ht hi hz hsize hby hzs hsz v n xs hown ad m c news hl hnews h1 h63 hbytes hbase
  unfold Oper.wp
  simp [execOp, ho, resolve, invoke, builtin, hs, hx, hr, Result.andThen]
  exact hK' _ _ (h v' w' h2 h3 h4 h5)
/-- A row whose cells still stand. -/
theorem OR.rwAt {α : Type} {B : Nat} {e : TypeId} {k : Nat} {R R' : α → List Value → Prop} {W W' : World} {xs : List α} {v : Value} (h : OR B e k R W xs v) (hc : ∀ j idx, v.ownBlock = some j → idx < xs.length * k → W'.cell? ⟨j, idx, none⟩ = W.cell? ⟨j, idx, none⟩) (hs : W.heap.size ≤ W'.heap.size) (hR : ∀ x us, R x us → R' x us) : RW (fun _ => True) k R' W' xs v := by
  obtain ⟨⟨uss, hlen, hel, _, h0 | ⟨g, cap, cur, rfl, hB, hg, hrest⟩⟩, hsz⟩ := h
  · obtain ⟨h1, h2⟩ := h0
    subst h1
    exact ⟨none, 0, by rw [h2], ⟨hsz, fun _ => rfl⟩, fun h => by omega⟩
  · have hl : g < W.heap.size := by
      rcases Nat.lt_or_ge g W.heap.size with c | c
      · exact c
      · rw [Array.getElem?_eq_none c] at hg; cases hg
    obtain ⟨_, _, hcs, htk⟩ := hrest
    have hall : ∀ u ∈ uss, u.length = k := fun u hu => by
      obtain ⟨i, hi, rfl⟩ := List.getElem_of_mem hu
      exact (hel i (by omega) hi).1
    refine ⟨_, cap, rfl, ⟨hsz, fun e => by cases e⟩, fun _ => ⟨g, 0, rfl, Nat.lt_of_lt_of_le hl hs, trivial, fun i hi => ⟨uss[i]'(by omega), (hel i hi (by omega)).1, fun j hj => ?_, hR _ _ (hel i hi (by omega)).2⟩⟩⟩
    have hidx : i * k + j < xs.length * k := by
      have : (i + 1) * k ≤ xs.length * k := Nat.mul_le_mul_right _ hi
      rw [Nat.succ_mul] at this
      omega
    rw [Nat.zero_add, hc g _ rfl hidx, Lib.cell_of_heap hg, ← flat_at k uss hall i j (by omega) hj, ← htk, List.getElem?_take_of_lt hidx]
    simp
structure O9 (g : Nat) (w0 w w1 : World) (E : Nat → Value) (v5 : Value) (FT : Nat → Prop) (n5 : Nat) (ss : List QS) (v : Value) (W : World) : Prop where
  gd : GD g w0 W
  sz : w1.heap.size ≤ W.heap.size
  bk : BK w.heap.size 19 (Upd E 5 v) W
  rb : BK (w.heap.size + 1) 19 zE W
  row : OR 0 41 7 (SR FT W) W ss v
  own : ∀ j, v.ownBlock = some j → v5.ownBlock = some j ∨ w1.heap.size ≤ j
  len : n5 ≤ ss.length
  keep : ∀ k, FT k → W.heap[k]? = w1.heap[k]?
  xr : ∀ j idx, v5.ownBlock = some j → idx < n5 * 7 → W.cell? ⟨j, idx, none⟩ = w1.cell? ⟨j, idx, none⟩
/-- What stands fast. -/
structure O9F (g : Nat) (w0 w w1 : World) (v5 : Value) (FT : Nat → Prop) : Prop where
  ft : ∀ k, FT k → k < w1.heap.size ∧ k ≠ g ∧ k ≠ w.heap.size ∧ k ≠ w.heap.size + 1 ∧ v5.ownBlock ≠ some k
  hv5 : ∀ j, v5.ownBlock = some j → j < w1.heap.size ∧ j ≠ g ∧ j ≠ w.heap.size ∧ j ≠ w.heap.size + 1 ∧ w0.heap.size ≤ j
  br : w.heap.size + 2 ≤ w1.heap.size
  hw0 : w0.heap.size ≤ w.heap.size
  hg : g < w0.heap.size
section
variable {g : Nat} {w0 w w1 : World} {E : Nat → Value} {v5 : Value} {FT : Nat → Prop} {n5 : Nat} {ss : List QS} {v : Value} {W W' : World}
theorem O9.cell (h : O9 g w0 w w1 E v5 FT n5 ss v W) : W.cell? ⟨w.heap.size, 5, none⟩ = some v := by
  have := h.bk.ev 5 (by omega)
  rwa [Upd, if_pos rfl] at this
/-- One stage more. -/
theorem O9.push {o : Obj} (hf : O9F g w0 w w1 v5 FT) (h : O9 g w0 w w1 E v5 FT n5 ss v W) (cs : List Value) (v' : Value)
    (hpush : ∀ (R' : QS → List Value → Prop) (W' : World) (x : QS) (us : List Value) (v' : Value), (∀ x us, SR FT W x us → R' x us) → us.length = 7 → R' x us → ss.length + 1 ≤ 1000000 → W'.ownsRow 0 41 7 v' (ss.length + 1) (cs ++ us) → OR 0 41 7 R' W' (ss ++ [x]) v')
    (hgr : (W.alloc o).grownBy W' v.ownBlock) (hpc : ∀ k idx, k < (W.alloc o).heap.size → (v.ownBlock = some k → idx < ss.length * 7) → W'.cell? ⟨k, idx, none⟩ = (W.alloc o).cell? ⟨k, idx, none⟩) (hv' : ∀ k, v'.ownBlock = some k → v.ownBlock = some k ∨ (W.alloc o).heap.size ≤ k)
    (hl : ss.length + 1 ≤ 1000000) (ho : W'.ownsRow 0 41 7 v' (ss.length + 1) (cs ++ [.bool false, .string ⟨#[]⟩, .int .i64 0, .string ⟨#[]⟩, .string ⟨#[]⟩, .int .i64 0, .slice none 0 0])) :
    O9 g w0 w w1 E v5 FT n5 (ss ++ [⟨false, [], .node 0 [] [] 0 []⟩]) v' (W'.setCell ⟨w.heap.size, 5, none⟩ v') ∧ W'.cell? ⟨w.heap.size, 5, none⟩ = some v ∧ W'.frozen? ⟨w.heap.size, 5, none⟩ = false := by
  have hsz := h.sz
  have hbr := hf.br
  have hle : W.heap.size ≤ W'.heap.size := Nat.le_trans (by simp) hgr.size
  have hsame : ∀ k, k < W.heap.size → v.ownBlock ≠ some k → W'.heap[k]? = W.heap[k]? := fun k hk hn => (hgr.block k (by simp; omega) (fun e => hn e.symm)).trans (((Below.refl _ W).alloc (Nat.le_refl _) o).block k hk)
  have hnb : ∀ k, k < w1.heap.size → (v5.ownBlock ≠ some k) → v.ownBlock ≠ some k := fun k hk hn e => by
    rcases h.own k e with h1 | h1
    · exact hn h1
    · omega
  have hb5 : v5.ownBlock ≠ some w.heap.size := fun e => (hf.hv5 _ e).2.2.1 rfl
  have hr5 : v5.ownBlock ≠ some (w.heap.size + 1) := fun e => (hf.hv5 _ e).2.2.2.1 rfl
  have hbb := hsame w.heap.size (by omega) (hnb _ (by omega) hb5)
  have hrr := hsame (w.heap.size + 1) (by omega) (hnb _ (by omega) hr5)
  have hset : ∀ k, k ≠ w.heap.size → (W'.setCell ⟨w.heap.size, 5, none⟩ v').heap[k]? = W'.heap[k]? := fun k hk => Below.heap_setCell _ _ _ k (by simpa using hk)
  have hft : ∀ k, FT k → W'.heap[k]? = W.heap[k]? := fun k hk => hsame k (by have := (hf.ft k hk).1; omega) (hnb k (hf.ft k hk).1 (hf.ft k hk).2.2.2.2)
  have hB : Below w0.heap.size W W' := ((Below.refl _ W).alloc (by have := hf.hw0; omega) o).grown hgr (by simp; have := hf.hw0; omega) (fun k hk => by
    rcases h.own k hk with h1 | h1
    · exact (hf.hv5 k h1).2.2.2.2
    · have := hf.hw0; omega)
  have hFS : Stay FT FT W (W'.setCell ⟨w.heap.size, 5, none⟩ v') := ⟨by simpa using hle, fun k hk _ => ⟨hk, (hset k (hf.ft k hk).2.2.1).trans (hft k hk)⟩⟩
  have hvb : ∀ j, v'.ownBlock = some j → j ≠ w.heap.size := fun j hj e => by
    subst e
    rcases hv' _ hj with h1 | h1
    · exact hnb _ (by omega) hb5 h1
    · simp at h1; omega
  refine ⟨⟨(h.gd.on hB).set hf.hw0 _ _, by simpa using Nat.le_trans hsz hle, ((h.bk.keep hbb hle).set 5 (by omega) v').cong (fun i _ => upd_upd E 5 v v' i), (h.rb.keep hrr hle).other (by omega) _ _, ?_, fun j hj => ?_, by rw [List.length_append]; have := h.len; omega, fun k hk => (hset k (hf.ft k hk).2.2.1).trans ((hft k hk).trans (h.keep k hk)), fun j idx hj hidx => ?_⟩, ?_, ?_⟩
  · exact (hpush (SR FT (W'.setCell ⟨w.heap.size, 5, none⟩ v')) W' ⟨false, [], .node 0 [] [] 0 []⟩ _ v' (fun x us hx => SR.go hFS x us hx) rfl (sr_leaf _ _ false []) hl ho).own (fun j hj => hset j (hvb j hj)) (fun _ _ hx => hx) 0 (Nat.le_refl _)
  · rcases hv' j hj with h1 | h1
    · exact h.own j h1
    · simp at h1
      exact .inr (by omega)
  · have hj5 := hf.hv5 j hj
    rw [World.cell?_of_block (a := ⟨j, idx, none⟩) (hset j hj5.2.2.1), hpc j idx (by simp; omega) (fun _ => Nat.lt_of_lt_of_le hidx (Nat.mul_le_mul_right _ h.len)), World.cell?_of_block (a := ⟨j, idx, none⟩) (((Below.refl _ W).alloc (Nat.le_refl _) o).block j (by omega))]
    exact h.xr j idx hj hidx
  · exact (World.cell?_of_block (a := ⟨w.heap.size, 5, none⟩) hbb).trans h.cell
  · exact (World.frozen?_of_block (a := ⟨w.heap.size, 5, none⟩) hbb).trans (h.bk.fz 5)
theorem O9.al (hf : O9F g w0 w w1 v5 FT) (h : O9 g w0 w w1 E v5 FT n5 ss v W) (o : Obj) : O9 g w0 w w1 E v5 FT n5 ss v (W.alloc o) := by
  have hB := ((Below.refl _ W).alloc (Nat.le_refl _) o)
  have hsz := h.sz
  exact ⟨h.gd.al o, by simp; omega, h.bk.al o, h.rb.al o, h.row.own (fun j hj => hB.block j ((h.row.lt hj).2)) (fun x us hx => SR.go ⟨by simp, fun k hk hl => ⟨hk, hB.block k hl⟩⟩ x us hx) 0 (Nat.le_refl _), h.own, h.len, fun k hk => (hB.block k (by have := (hf.ft k hk).1; omega)).trans (h.keep k hk), fun j idx hj hi => (hB.cell (p := ⟨j, idx, none⟩) (by have := (hf.hv5 j hj).1; show j < _; omega)).trans (h.xr j idx hj hi)⟩
end
/-- The end. -/
theorem o_ret9 {g : Nat} {w0 w w1 W : World} {FT : Nat → Prop} {rows ss : List QS} {op : Int} {nm tx : List UInt8} {num : Int} {a : Option Addr} {n c : Nat} {sa : Option Addr} {sn sc : Nat} {kd lm : Int} {ls : Bool} {na : Option Addr} {nn nc : Nat} {ga : Option Addr} {gn gc : Nat} {sk : Int} {oop : Int} {onm otx : List UInt8} {onum : Int} {oa : Option Addr} {on oc : Nat} {ky : List UInt8} {wi : Int} {a9 : Option Addr} {n9 c9 : Nat} (hf : O9F g w0 w w1 (.slice sa sn sc) FT) (hq : QX FT w1 (Upd (xE op nm tx num a n c sa sn sc kd lm ls na nn nc ga gn gc sk oop onm otx onum oa on oc ky wi) 5 (.slice none 0 0))) (hrow : OR 0 41 7 (SR FT w1) w1 rows (.slice sa sn sc))
    (h : O9 g w0 w w1 (xE op nm tx num a n c sa sn sc kd lm ls na nn nc ga gn gc sk oop onm otx onum oa on oc ky wi) (.slice sa sn sc) FT rows.length ss (.slice a9 n9 c9) W) (hgw : GD g w w1) (hFT : ∀ k, k < w.heap.size → k ≠ g → (Value.slice sa sn sc).ownBlock ≠ some k → FT k)
    (tmps : Array Value) (df : _) (hdf : df = []) (hp : tmps.getD 4 undef = .pointer (some ⟨w.heap.size + 1, 0, none⟩)) :
    bodyPost Try.prog Try.f8 (OPost g w0 w (xE op nm tx num a n c sa sn sc kd lm ls na nn nc ga gn gc sk oop onm otx onum oa on oc ky wi)) Exit.ret { tmps := tmps, defers := df } (setL W (w.heap.size + 1) [.int .i64 op, .string ⟨nm.toArray⟩, .string ⟨tx.toArray⟩, .int .i64 num, .slice a n c, .slice a9 n9 c9, .int .i64 kd, .int .i64 lm, .bool ls, .slice na nn nc, .slice ga gn gc, .int .i64 sk, .int .i64 oop, .string ⟨onm.toArray⟩, .string ⟨otx.toArray⟩, .int .i64 onum, .slice oa on oc, .string ⟨ky.toArray⟩, .int .i64 wi] 0) := by
  have hb := setL_below (B := w0.heap.size) (b := w.heap.size + 1) (by have := hf.hw0; omega) [.int .i64 op, .string ⟨nm.toArray⟩, .string ⟨tx.toArray⟩, .int .i64 num, .slice a n c, .slice a9 n9 c9, .int .i64 kd, .int .i64 lm, .bool ls, .slice na nn nc, .slice ga gn gc, .int .i64 sk, .int .i64 oop, .string ⟨onm.toArray⟩, .string ⟨otx.toArray⟩, .int .i64 onum, .slice oa on oc, .string ⟨ky.toArray⟩, .int .i64 wi] W 0
  have hc := setL_at (b := w.heap.size + 1) [.int .i64 op, .string ⟨nm.toArray⟩, .string ⟨tx.toArray⟩, .int .i64 num, .slice a n c, .slice a9 n9 c9, .int .i64 kd, .int .i64 lm, .bool ls, .slice na nn nc, .slice ga gn gc, .int .i64 sk, .int .i64 oop, .string ⟨onm.toArray⟩, .string ⟨otx.toArray⟩, .int .i64 onum, .slice oa on oc, .string ⟨ky.toArray⟩, .int .i64 wi] W 0 (fun j _ hj => ⟨_, h.rb.ev j (by simpa using hj)⟩)
  have hset : ∀ k, k ≠ w.heap.size + 1 → (setL W (w.heap.size + 1) [.int .i64 op, .string ⟨nm.toArray⟩, .string ⟨tx.toArray⟩, .int .i64 num, .slice a n c, .slice a9 n9 c9, .int .i64 kd, .int .i64 lm, .bool ls, .slice na nn nc, .slice ga gn gc, .int .i64 sk, .int .i64 oop, .string ⟨onm.toArray⟩, .string ⟨otx.toArray⟩, .int .i64 onum, .slice oa on oc, .string ⟨ky.toArray⟩, .int .i64 wi] 0).heap[k]? = W.heap[k]? := fun k hk => setL_heap _ hk _ _
  have hr5 : ∀ j, (Value.slice a9 n9 c9).ownBlock = some j → j ≠ w.heap.size + 1 := fun j hj e => by
    subst e
    rcases h.own _ hj with h1 | h1
    · exact (hf.hv5 _ h1).2.2.2.1 rfl
    · have := hf.br; omega
  have hnft : ∀ k, FT k → (Value.slice a9 n9 c9).ownBlock ≠ some k := fun k hk e => by
    rcases h.own _ e with h1 | h1
    · exact (hf.ft k hk).2.2.2.2 h1
    · have := (hf.ft k hk).1; omega
  have hsz : w1.heap.size ≤ (setL W (w.heap.size + 1) [.int .i64 op, .string ⟨nm.toArray⟩, .string ⟨tx.toArray⟩, .int .i64 num, .slice a n c, .slice a9 n9 c9, .int .i64 kd, .int .i64 lm, .bool ls, .slice na nn nc, .slice ga gn gc, .int .i64 sk, .int .i64 oop, .string ⟨onm.toArray⟩, .string ⟨otx.toArray⟩, .int .i64 onum, .slice oa on oc, .string ⟨ky.toArray⟩, .int .i64 wi] 0).heap.size := Nat.le_trans h.sz hb.size
  have hS1 : Stay FT FT w1 (setL W (w.heap.size + 1) [.int .i64 op, .string ⟨nm.toArray⟩, .string ⟨tx.toArray⟩, .int .i64 num, .slice a n c, .slice a9 n9 c9, .int .i64 kd, .int .i64 lm, .bool ls, .slice na nn nc, .slice ga gn gc, .int .i64 sk, .int .i64 oop, .string ⟨onm.toArray⟩, .string ⟨otx.toArray⟩, .int .i64 onum, .slice oa on oc, .string ⟨ky.toArray⟩, .int .i64 wi] 0) := ⟨hsz, fun k hk _ => ⟨hk, (hset k (hf.ft k hk).2.2.2.1).trans (h.keep k hk)⟩⟩
  have hSW : Stay FT FT W (setL W (w.heap.size + 1) [.int .i64 op, .string ⟨nm.toArray⟩, .string ⟨tx.toArray⟩, .int .i64 num, .slice a n c, .slice a9 n9 c9, .int .i64 kd, .int .i64 lm, .bool ls, .slice na nn nc, .slice ga gn gc, .int .i64 sk, .int .i64 oop, .string ⟨onm.toArray⟩, .string ⟨otx.toArray⟩, .int .i64 onum, .slice oa on oc, .string ⟨ky.toArray⟩, .int .i64 wi] 0) := ⟨hb.size, fun k hk _ => ⟨hk, hset k (hf.ft k hk).2.2.2.1⟩⟩
  have hqW := hq.go hS1
  have hrw := h.row.own (fun j hj => hset j (hr5 j hj)) (fun x us hx => SR.go hSW x us hx) 0 (Nat.le_refl _)
  have hy : QX (fun _ => True) (setL W (w.heap.size + 1) [.int .i64 op, .string ⟨nm.toArray⟩, .string ⟨tx.toArray⟩, .int .i64 num, .slice a n c, .slice a9 n9 c9, .int .i64 kd, .int .i64 lm, .bool ls, .slice na nn nc, .slice ga gn gc, .int .i64 sk, .int .i64 oop, .string ⟨onm.toArray⟩, .string ⟨otx.toArray⟩, .int .i64 onum, .slice oa on oc, .string ⟨ky.toArray⟩, .int .i64 wi] 0) (Upd (Upd (xE op nm tx num a n c sa sn sc kd lm ls na nn nc ga gn gc sk oop onm otx onum oa on oc ky wi) 5 (.slice none 0 0)) 5 (.slice a9 n9 c9)) :=
    hqW.s5 ⟨ss, hrw.own (fun _ _ => rfl) (fun x us hx => SR.go ⟨Nat.le_refl _, fun k hk _ => ⟨⟨trivial, hnft k hk⟩, rfl⟩⟩ x us hx) 0 (Nat.le_refl _)⟩ (fun _ _ => trivial) (fun k hk _ => ⟨trivial, hnft k hk.1⟩)
  have hST : Stay (FF FT (.slice none 0 0)) (fun _ => True) (setL W (w.heap.size + 1) [.int .i64 op, .string ⟨nm.toArray⟩, .string ⟨tx.toArray⟩, .int .i64 num, .slice a n c, .slice a9 n9 c9, .int .i64 kd, .int .i64 lm, .bool ls, .slice na nn nc, .slice ga gn gc, .int .i64 sk, .int .i64 oop, .string ⟨onm.toArray⟩, .string ⟨otx.toArray⟩, .int .i64 onum, .slice oa on oc, .string ⟨ky.toArray⟩, .int .i64 wi] 0) (setL W (w.heap.size + 1) [.int .i64 op, .string ⟨nm.toArray⟩, .string ⟨tx.toArray⟩, .int .i64 num, .slice a n c, .slice a9 n9 c9, .int .i64 kd, .int .i64 lm, .bool ls, .slice na nn nc, .slice ga gn gc, .int .i64 sk, .int .i64 oop, .string ⟨onm.toArray⟩, .string ⟨otx.toArray⟩, .int .i64 onum, .slice oa on oc, .string ⟨ky.toArray⟩, .int .i64 wi] 0) := ⟨Nat.le_refl _, fun _ _ _ => ⟨trivial, rfl⟩⟩
  have hx : QE (fun _ => True) (setL W (w.heap.size + 1) [.int .i64 op, .string ⟨nm.toArray⟩, .string ⟨tx.toArray⟩, .int .i64 num, .slice a n c, .slice a9 n9 c9, .int .i64 kd, .int .i64 lm, .bool ls, .slice na nn nc, .slice ga gn gc, .int .i64 sk, .int .i64 oop, .string ⟨onm.toArray⟩, .string ⟨otx.toArray⟩, .int .i64 onum, .slice oa on oc, .string ⟨ky.toArray⟩, .int .i64 wi] 0) (xE op nm tx num a n c sa sn sc kd lm ls na nn nc ga gn gc sk oop onm otx onum oa on oc ky wi) := by
    obtain ⟨⟨t, ht⟩, _, kd', lm', ls', ⟨ns, hns⟩, ⟨gs, hgs⟩, sk', ⟨o, ho⟩, ky', wi', _⟩ := hqW
    refine ⟨⟨t, TG.go hST _ _ ht⟩, ⟨rows, hrow.rwAt (fun j idx hj hi => ?_) hsz (fun x us hx => SR.go ⟨hsz, fun k hk hl => ⟨trivial, (hset k (hf.ft k hk).2.2.2.1).trans (h.keep k hk)⟩⟩ x us hx)⟩, kd', lm', ls', ⟨ns, hns.go hST (fun _ _ h => h)⟩, ⟨gs, hgs.go hST (fun _ _ h => h)⟩, sk', ⟨o, TG.go hST _ _ ho⟩, ky', wi'⟩
    exact (World.cell?_of_block (a := ⟨j, idx, none⟩) (hset j (hf.hv5 j hj).2.2.2.1)).trans (h.xr j idx hj hi)
  have hyE : QX (fun _ => True) (setL W (w.heap.size + 1) [.int .i64 op, .string ⟨nm.toArray⟩, .string ⟨tx.toArray⟩, .int .i64 num, .slice a n c, .slice a9 n9 c9, .int .i64 kd, .int .i64 lm, .bool ls, .slice na nn nc, .slice ga gn gc, .int .i64 sk, .int .i64 oop, .string ⟨onm.toArray⟩, .string ⟨otx.toArray⟩, .int .i64 onum, .slice oa on oc, .string ⟨ky.toArray⟩, .int .i64 wi] 0) (xE op nm tx num a n c a9 n9 c9 kd lm ls na nn nc ga gn gc sk oop onm otx onum oa on oc ky wi) := QX.cong (E' := (xE op nm tx num a n c a9 n9 c9 kd lm ls na nn nc ga gn gc sk oop onm otx onum oa on oc ky wi)) hy (below19 rfl rfl rfl rfl rfl rfl rfl rfl rfl rfl rfl rfl rfl rfl rfl rfl rfl rfl rfl)
  exact bodyPost_ret (results_item (ty := 29) rfl tmps _ (w.heap.size + 1) [.int .i64 op, .string ⟨nm.toArray⟩, .string ⟨tx.toArray⟩, .int .i64 num, .slice a n c, .slice a9 n9 c9, .int .i64 kd, .int .i64 lm, .bool ls, .slice na nn nc, .slice ga gn gc, .int .i64 sk, .int .i64 oop, .string ⟨onm.toArray⟩, .string ⟨otx.toArray⟩, .int .i64 onum, .slice oa on oc, .string ⟨ky.toArray⟩, .int .i64 wi] _ hp (fun j v hv => by have := hc j v hv; rwa [Nat.zero_add] at this) Try.underlying29 rfl (by kernel_rfl)) hdf ⟨(xE op nm tx num a n c a9 n9 c9 kd lm ls na nn nc ga gn gc sk oop onm otx onum oa on oc ky wi), rfl, hyE.qe, hx, h.gd.on hb, Nat.le_trans hgw.le hsz, fun k h1 h2 h3 => ((hset k (by omega)).trans (h.keep k (hFT k h1 h2 h3))).trans (hgw.ap.block h2 h1)⟩

end Go.Proofs.Ytmcnhphmglmmeaa

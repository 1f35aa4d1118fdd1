/-
  The parser, with an error or without one: what its functions hand back.
-/
import Derived.Test.YtpbdcghiabhliaaDoorPzA
namespace Go.Proofs.YtpbdcghiabhliaaDoor
open Go.RowKit

/-- What a function of the parser hands back: a node whose blocks are all new, the place and the error as the model has them. -/
def PNz (b : Nat) (l : List UInt8) (r : Out NT) (w : World) (en : Ending) (w' : World) : Prop := ∃ v t j e, en = .returned v ∧ NG (fun k => w.heap.size ≤ k) w' t v ∧ ZQ b l j e w w' ∧ fits r t j e
/-- What a function of the parser reads from i on. -/
def RdZ (fn : Nat) (b : Nat) (l : List UInt8) (i : Nat) (r : Out NT) : Prop := ∀ W, ZS b l i 0 W → Calls Tryd.prog fn #[.pointer (some ⟨b, 0, none⟩)] W (PNz b l r W)
/-- Within a function whose result lies in a block of its own. -/
structure ZR (b : Nat) (l : List UInt8) (i e : Nat) (w W : World) : Prop where
  pq : ZQ b l i e w W
  bk : BK w.heap.size 6 (nE 0 none 0 0 [] none 0 0 0 0) W
  hb : b < w.heap.size
section
variable {b i j e f : Nat} {l : List UInt8} {w W W' : World}
theorem ZR.start (h : ZS b l i e w) : ZR b l i e w (w.alloc (.cells #[.int .i64 0, .slice none 0 0, .string ⟨#[]⟩, .slice none 0 0, .int .i64 0, .int .i64 0] 25)) := ⟨(ZQ.refl h).on (al_below w _), nE_new w 0 none 0 0 [] none 0 0 0 0, h.st.lt⟩
theorem ZR.go (h : ZR b l i e w W) (k : ZQ b l j f W W') : ZR b l j f w W' := ⟨h.pq.trans k, h.bk.go k.ap (Nat.ne_of_gt h.hb), h.hb⟩
theorem ZR.sz (h : ZR b l i e w W) : w.heap.size < W.heap.size := h.bk.lt
theorem ZR.far (h : ZR b l i e w W) (k : Below (w.heap.size + 1) W W') : ZR b l i e w W' := ⟨h.pq.far (k.mono (Nat.le_succ _)) h.hb, h.bk.on k (Nat.lt_succ_self _), h.hb⟩
theorem ZR.on (h : ZR b l i e w W) (k : Below W.heap.size W W') : ZR b l i e w W' := h.far (k.mono h.sz)
theorem ZR.ps (h : ZR b l i e w W) : ZS b l i e W := h.pq.ps
end
theorem node_retz {fn : Func} {P : Tmp} (hfn : fn.results = #[.cell P 25]) {w W : World} {b j e : Nat} {l : List UInt8} (hS : ZR b l j e w W) (tmps : Array Value) (df : _) (hdf : df = []) (hp : tmps.getD P undef = .pointer (some ⟨w.heap.size, 0, none⟩)) {v0 v1 v2 v3 v4 v5 : Value} {t : NT} {r : Out NT}
    (hT : NG (fun k => w.heap.size < k) W t (.agg #[v0, v1, v2, v3, v4, v5])) (hr : fits r t j e) :
    bodyPost Tryd.prog fn (PNz b l r w) Exit.ret { tmps := tmps, defers := df } (setL W w.heap.size [v0, v1, v2, v3, v4, v5] 0) := by
  have hb := setL_below (B := w.heap.size) (b := w.heap.size) (Nat.le_refl _) [v0, v1, v2, v3, v4, v5] W 0
  exact item_ret hfn hS.bk hdf hp ⟨_, t, j, e, rfl, NG.go ⟨hb.size, fun j hj _ => ⟨Nat.le_of_lt hj, setL_heap _ (Nat.ne_of_gt hj) _ _⟩⟩ _ _ hT, hS.pq.far hb hS.hb, hr⟩
/-- The result's block as it was laid: the zero node. -/
theorem zero_retz {fn : Func} {P : Tmp} (hfn : fn.results = #[.cell P 25]) {w W : World} {b j e : Nat} {l : List UInt8} (hS : ZR b l j e w W) (tmps : Array Value) (df : _) (hdf : df = []) (hp : tmps.getD P undef = .pointer (some ⟨w.heap.size, 0, none⟩)) {r : Out NT} (he : e ≠ 0) (hr : r = .error (j, e)) :
    bodyPost Tryd.prog fn (PNz b l r w) Exit.ret { tmps := tmps, defers := df } (setL W w.heap.size [.int .i64 0, .slice none 0 0, .string ⟨#[]⟩, .slice none 0 0, .int .i64 0, .int .i64 0] 0) := by
  subst hr
  exact node_retz hfn hS tmps df hdf hp (NG.node (rs := []) (kids := []) RW.nil RW.nil 0 [] 0 0 (by simp)) (fits_err he)
theorem NG.zq {b B j e : Nat} {l : List UInt8} {W W' : World} {t : NT} {v : Value} (h : NG (fun k => B < k) W t v) (k : ZQ b l j e W W') (hb : b ≤ B) : NG (fun k => B < k) W' t v := NG.go ⟨k.ap.1.size, fun _ hk hl => ⟨hk, k.ap.block (by omega) hl⟩⟩ _ _ h
/-- Within a function that holds a node in a block of its own, besides its result's. -/
structure ZA (b : Nat) (l : List UInt8) (i e : Nat) (w : World) (q : Nat) (E : Nat → Value) (t : NT) (v : Value) (W : World) : Prop where
  pr : ZR b l i e w W
  bk : BK q 6 E W
  ng : NG (fun k => w.heap.size < k) W t v
  hq : w.heap.size < q
theorem ZA.go {b : Nat} {l : List UInt8} {i e j f : Nat} {w : World} {q : Nat} {E : Nat → Value} {t : NT} {v : Value} {W W' : World} (h : ZA b l i e w q E t v W) (k : ZQ b l j f W W') : ZA b l j f w q E t v W' := ⟨h.pr.go k, h.bk.go k.ap (by have := h.pr.hb; have := h.hq; omega), h.ng.zq k (Nat.le_of_lt h.pr.hb), h.hq⟩
theorem ZA.start {b : Nat} {l : List UInt8} {j e : Nat} {w W : World} {t : NT} {op : Int} {ra : Option Addr} {rn rc : Nat} {nm : List UInt8} {a : Option Addr} {n c : Nat} {mn mx : Int} (h : ZR b l j e w W) (hT : NG (fun k => w.heap.size < k) W t (.agg #[.int .i64 op, .slice ra rn rc, .string ⟨nm.toArray⟩, .slice a n c, .int .i64 mn, .int .i64 mx])) :
    ZA b l j e w W.heap.size (nE op ra rn rc nm a n c mn mx) t (.agg #[.int .i64 op, .slice ra rn rc, .string ⟨nm.toArray⟩, .slice a n c, .int .i64 mn, .int .i64 mx]) (W.alloc (.cells #[.int .i64 op, .slice ra rn rc, .string ⟨nm.toArray⟩, .slice a n c, .int .i64 mn, .int .i64 mx] 25)) :=
  ⟨h.on (al_below W _), nE_new W op ra rn rc nm a n c mn mx, hT.low (al_below W _), h.sz⟩
/-- Within concat and choice: the nodes read so far. -/
structure ZL (b : Nat) (l : List UInt8) (i e : Nat) (w : World) (kids : List NT) (v : Value) (W : World) : Prop where
  pr : ZR b l i e w W
  row : OR (w.heap.size + 1) 25 6 (KR (FF (fun k => w.heap.size < k) v) W) W kids v
section
variable {b i e j f : Nat} {l : List UInt8} {w W W' : World} {kids : List NT} {v x : Value} {t : NT}
theorem ZL.start (h : ZR b l i e w W) : ZL b l i e w [] (.slice none 0 0) W := ⟨h, OR.nil⟩
theorem ZL.go (h : ZL b l i e w kids v W) (k : ZQ b l j f W W') : ZL b l j f w kids v W' :=
  ⟨h.pr.go k, h.row.keep (fun m h1 h2 => k.ap.block (by have := h.pr.hb; omega) h2) (fun _ _ hx => KR.go ⟨k.ap.1.size, fun m hm hl => ⟨hm, k.ap.block (by have := h.pr.hb; have := hm.1; omega) hl⟩⟩ _ _ hx)⟩
theorem ZL.new (h : ZL b l i e w kids v W) (hT : NG (fun k => W.heap.size ≤ k) W' t x) : NG (FF (fun k => w.heap.size < k) v) W' t x :=
  NG.go ⟨Nat.le_refl _, fun k hk _ => ⟨⟨Nat.lt_of_lt_of_le h.pr.sz hk, fun e => by have := (h.row.lt e).2; omega⟩, rfl⟩⟩ _ _ hT
theorem ZL.push {o : Obj} {g' cap H : Nat} {W5 : World} (h : ZL b l i e w kids v W) (cs : List Value) (hown : W.ownsRow (w.heap.size + 1) 25 6 v kids.length cs)
    (hpush : ∀ (R' : NT → List Value → Prop) (W' : World) (x : NT) (us : List Value) (v' : Value), (∀ x us, KR (FF (fun k => w.heap.size < k) v) W x us → R' x us) → us.length = 6 → R' x us → kids.length + 1 ≤ 1000000 → W'.ownsRow (w.heap.size + 1) 25 6 v' (kids.length + 1) (cs ++ us) → OR (w.heap.size + 1) 25 6 R' W' (kids ++ [x]) v')
    (hgr : (W.alloc o).grownBy W5 v.ownBlock) (hat : v.ownBlock = some g' ∨ g' = H) (hH : H = (W.alloc o).heap.size) (us : List Value) (hu : us.length = 6) (hx : KR (FF (fun k => w.heap.size < k) v) W t us) (hl : kids.length + 1 ≤ 1000000)
    (ho : W5.ownsRow (w.heap.size + 1) 25 6 (.slice (some ⟨g', 0, none⟩) (kids.length + 1) cap) (kids.length + 1) (cs ++ us)) : ZL b l i e w (kids ++ [t]) (.slice (some ⟨g', 0, none⟩) (kids.length + 1) cap) W5 := by
  have hB := push_below hgr hown h.pr.sz
  have hst := push_stay (G := fun k => w.heap.size < k) (n := kids.length + 1) (cap := cap) hgr (hat.imp id (fun e => by rw [e, hH]; simp))
  exact ⟨h.pr.far hB, hpush _ _ t us _ (fun _ _ h => KR.go hst _ _ h) hu (KR.go hst _ _ hx) hl ho⟩
theorem ZL.rows (h : ZL b l i e w kids v W) : RW (fun k => w.heap.size + 1 ≤ k) 6 (KR (fun k => w.heap.size + 1 ≤ k) W) W kids v :=
  (h.row.rw (F := fun k => w.heap.size + 1 ≤ k) (fun _ h => h)).go ⟨Nat.le_refl _, fun _ hk _ => ⟨hk, rfl⟩⟩ (fun _ _ h => KR.go ⟨Nat.le_refl _, fun _ hk _ => ⟨hk.1, rfl⟩⟩ _ _ h)
end
theorem ZL.lit {b i e : Nat} {l : List UInt8} {w W : World} {t : NT} (h : ZR b l i e w W) (us : List Value) (hu : us.length = 6) (hT : KR (fun k => w.heap.size < k) W t us) : ZL b l i e w [t] (.slice (some ⟨W.heap.size, 0, none⟩) 1 1) (W.alloc (.cells us.toArray 25)) :=
  ⟨h.on (al_below W _), OR.lit W t us h.sz hu (KR.go ⟨(al_below W _).size, fun k hk hl => ⟨⟨hk, fun e => by simp only [Value.ownBlock, Option.some.injEq] at e; omega⟩, (al_below W _).block k hl⟩⟩ _ _ hT)⟩
end Go.Proofs.YtpbdcghiabhliaaDoor

/-
  What the walks of Query and of Odd share: a query while it is made, cell by cell.
-/
import Derived.Test.YtmcnhphmglmmeaaQryU
namespace Go.Proofs.Ytmcnhphmglmmeaa
open Go.RowKit

theorem OR.own {α : Type} {B : Nat} {e : TypeId} {k : Nat} {R R' : α → List Value → Prop} {W W' : World} {xs : List α} {v : Value} (h : OR B e k R W xs v) (hb : ∀ j, v.ownBlock = some j → W'.heap[j]? = W.heap[j]?) (hR : ∀ x us, R x us → R' x us) (B' : Nat) (hB : B' ≤ B) : OR B' e k R' W' xs v := by
  obtain ⟨⟨uss, hlen, hel, h0, ho⟩, hsz⟩ := h
  refine ⟨⟨uss, hlen, fun i h h' => ⟨(hel i h h').1, hR _ _ (hel i h h').2⟩, h0, ho.imp id ?_⟩, hsz⟩
  rintro ⟨g', cap, cur, rfl, hb', hg', hrest⟩
  exact ⟨g', cap, cur, rfl, Nat.le_trans hB hb', (hb g' rfl).trans hg', hrest⟩
theorem OR.lt {α : Type} {B : Nat} {e : TypeId} {k : Nat} {R : α → List Value → Prop} {W : World} {xs : List α} {v : Value} (h : OR B e k R W xs v) {j : Nat} (hj : v.ownBlock = some j) : B ≤ j ∧ j < W.heap.size := by
  obtain ⟨cs, hown, _⟩ := h.cells
  exact hown.lt j hj
theorem FF.stay {F F' : Nat → Prop} {w w' : World} (hs : Stay F F' w w') (v : Value) : Stay (FF F v) (FF F' v) w w' := ⟨hs.1, fun k hk hl => ⟨⟨(hs.2 k hk.1 hl).1, hk.2⟩, (hs.2 k hk.1 hl).2⟩⟩
/-- A query, cell by cell: the stages lie in a block of their own. -/
structure QX (F : Nat → Prop) (W : World) (E : Nat → Value) : Prop where
  t : ∃ t, TG (FF F (E 5)) W t (.agg #[E 0, E 1, E 2, E 3, E 4])
  ss : ∃ ss, OR 0 41 7 (SR (FF F (E 5)) W) W ss (E 5)
  kd : ∃ n, E 6 = .int .i64 n
  lm : ∃ n, E 7 = .int .i64 n
  ls : ∃ b, E 8 = .bool b
  ns : ∃ ns, RW (FF F (E 5)) 1 NR W ns (E 9)
  gs : ∃ gs, RW (FF F (E 5)) 2 GR W gs (E 10)
  sk : ∃ n, E 11 = .int .i64 n
  o : ∃ t, TG (FF F (E 5)) W t (.agg #[E 12, E 13, E 14, E 15, E 16])
  ky : ∃ s : List UInt8, E 17 = .string ⟨s.toArray⟩
  wi : ∃ n, E 18 = .int .i64 n
  own : ∀ j, (E 5).ownBlock = some j → F j
theorem QX.lt {F : Nat → Prop} {W : World} {E : Nat → Value} (h : QX F W E) {j : Nat} (hj : (E 5).ownBlock = some j) : j < W.heap.size := by
  obtain ⟨ss, hss⟩ := h.ss
  exact (hss.lt hj).2
theorem QX.go {F F' : Nat → Prop} {w w' : World} {E : Nat → Value} (hs : Stay F F' w w') (h : QX F w E) : QX F' w' E := by
  have hl := fun j hj => h.lt (j := j) hj
  obtain ⟨⟨t, ht⟩, ⟨ss, hss⟩, kd, lm, ls, ⟨ns, hns⟩, ⟨gs, hgs⟩, sk, ⟨o, ho⟩, ky, wi, hown⟩ := h
  have h5 := FF.stay hs (E 5)
  exact ⟨⟨t, TG.go h5 _ _ ht⟩, ⟨ss, hss.own (fun j hj => (hs.2 j (hown j hj) (hl j hj)).2) (fun _ _ => SR.go h5 _ _) 0 (Nat.le_refl _)⟩, kd, lm, ls, ⟨ns, hns.go h5 (fun _ _ h => h)⟩, ⟨gs, hgs.go h5 (fun _ _ h => h)⟩, sk, ⟨o, TG.go h5 _ _ ho⟩, ky, wi, fun j hj => (hs.2 j (hown j hj) (hl j hj)).1⟩
theorem QX.qe {F : Nat → Prop} {W : World} {E : Nat → Value} (h : QX F W E) : QE (fun _ => True) W E := by
  obtain ⟨⟨t, ht⟩, ⟨ss, hss⟩, kd, lm, ls, ⟨ns, hns⟩, ⟨gs, hgs⟩, sk, ⟨o, ho⟩, ky, wi, hown⟩ := h
  have h5 : Stay (FF F (E 5)) (fun _ => True) W W := ⟨Nat.le_refl _, fun _ _ _ => ⟨trivial, rfl⟩⟩
  exact ⟨⟨t, TG.go h5 _ _ ht⟩, ⟨ss, (hss.rw (F := fun _ => True) (fun _ _ => trivial)).go ⟨Nat.le_refl _, fun _ _ _ => ⟨trivial, rfl⟩⟩ (fun _ _ => SR.go h5 _ _)⟩, kd, lm, ls, ⟨ns, hns.go h5 (fun _ _ h => h)⟩, ⟨gs, hgs.go h5 (fun _ _ h => h)⟩, sk, ⟨o, TG.go h5 _ _ ho⟩, ky, wi⟩
/-- What a store of one field leaves. -/
theorem QX.s5 {F F' : Nat → Prop} {W : World} {E : Nat → Value} (h : QX F W E) {v : Value} (hv : ∃ ss, OR 0 41 7 (SR (FF F' v) W) W ss v) (hown : ∀ j, v.ownBlock = some j → F' j) (hF : ∀ k, FF F (E 5) k → k < W.heap.size → FF F' v k) : QX F' W (Upd E 5 v) := by
  obtain ⟨⟨t, ht⟩, ⟨ss, hss⟩, kd, lm, ls, ⟨ns, hns⟩, ⟨gs, hgs⟩, sk, ⟨o, ho⟩, ky, wi, _⟩ := h
  have h5 : Stay (FF F (E 5)) (FF F' v) W W := ⟨Nat.le_refl _, fun k hk hl => ⟨hF k hk hl, rfl⟩⟩
  exact ⟨⟨t, TG.go h5 _ _ ht⟩, hv, kd, lm, ls, ⟨ns, hns.go h5 (fun _ _ h => h)⟩, ⟨gs, hgs.go h5 (fun _ _ h => h)⟩, sk, ⟨o, TG.go h5 _ _ ho⟩, ky, wi, hown⟩
section
variable {F : Nat → Prop} {W : World} {E : Nat → Value}
theorem QX.s6 (h : QX F W E) (n : Int) : QX F W (Upd E 6 (.int .i64 n)) := ⟨h.t, h.ss, ⟨n, rfl⟩, h.lm, h.ls, h.ns, h.gs, h.sk, h.o, h.ky, h.wi, h.own⟩
theorem QX.s7 (h : QX F W E) (n : Int) : QX F W (Upd E 7 (.int .i64 n)) := ⟨h.t, h.ss, h.kd, ⟨n, rfl⟩, h.ls, h.ns, h.gs, h.sk, h.o, h.ky, h.wi, h.own⟩
theorem QX.s8 (h : QX F W E) (b : Bool) : QX F W (Upd E 8 (.bool b)) := ⟨h.t, h.ss, h.kd, h.lm, ⟨b, rfl⟩, h.ns, h.gs, h.sk, h.o, h.ky, h.wi, h.own⟩
theorem QX.s9 (h : QX F W E) {v : Value} (hv : ∃ ns, RW (FF F (E 5)) 1 NR W ns v) : QX F W (Upd E 9 v) := ⟨h.t, h.ss, h.kd, h.lm, h.ls, hv, h.gs, h.sk, h.o, h.ky, h.wi, h.own⟩
theorem QX.s10 (h : QX F W E) {v : Value} (hv : ∃ gs, RW (FF F (E 5)) 2 GR W gs v) : QX F W (Upd E 10 v) := ⟨h.t, h.ss, h.kd, h.lm, h.ls, h.ns, hv, h.sk, h.o, h.ky, h.wi, h.own⟩
theorem QX.s11 (h : QX F W E) (n : Int) : QX F W (Upd E 11 (.int .i64 n)) := ⟨h.t, h.ss, h.kd, h.lm, h.ls, h.ns, h.gs, ⟨n, rfl⟩, h.o, h.ky, h.wi, h.own⟩
theorem QX.s17 (h : QX F W E) (s : List UInt8) : QX F W (Upd E 17 (.string ⟨s.toArray⟩)) := ⟨h.t, h.ss, h.kd, h.lm, h.ls, h.ns, h.gs, h.sk, h.o, ⟨s, rfl⟩, h.wi, h.own⟩
theorem QX.s18 (h : QX F W E) (n : Int) : QX F W (Upd E 18 (.int .i64 n)) := ⟨h.t, h.ss, h.kd, h.lm, h.ls, h.ns, h.gs, h.sk, h.o, h.ky, ⟨n, rfl⟩, h.own⟩
theorem QX.sT (h : QX F W E) {v0 v1 v2 v3 v4 : Value} (hv : ∃ t, TG (FF F (E 5)) W t (.agg #[v0, v1, v2, v3, v4])) : QX F W (Upd (Upd (Upd (Upd (Upd E 0 v0) 1 v1) 2 v2) 3 v3) 4 v4) := ⟨hv, h.ss, h.kd, h.lm, h.ls, h.ns, h.gs, h.sk, h.o, h.ky, h.wi, h.own⟩
theorem QX.sO (h : QX F W E) {v0 v1 v2 v3 v4 : Value} (hv : ∃ t, TG (FF F (E 5)) W t (.agg #[v0, v1, v2, v3, v4])) : QX F W (Upd (Upd (Upd (Upd (Upd E 12 v0) 13 v1) 14 v2) 15 v3) 16 v4) := ⟨h.t, h.ss, h.kd, h.lm, h.ls, h.ns, h.gs, h.sk, hv, h.ky, h.wi, h.own⟩
end

def xE (op : Int) (nm tx : List UInt8) (num : Int) (a : Option Addr) (n c : Nat) (sa : Option Addr) (sn sc : Nat) (kd lm : Int) (ls : Bool) (na : Option Addr) (nn nc : Nat) (ga : Option Addr) (gn gc : Nat) (sk : Int)
    (oop : Int) (onm otx : List UInt8) (onum : Int) (oa : Option Addr) (on oc : Nat) (ky : List UInt8) (wi : Int) : Nat → Value := fun i =>
  (qVal op nm tx num a n c sa sn sc kd lm ls na nn nc ga gn gc sk oop onm otx onum oa on oc ky wi)[i]!
def zE : Nat → Value := xE 0 [] [] 0 none 0 0 none 0 0 0 0 false none 0 0 none 0 0 0 0 [] [] 0 none 0 0 [] 0
theorem below19 {p : Nat → Prop} (h0 : p 0) (h1 : p 1) (h2 : p 2) (h3 : p 3) (h4 : p 4) (h5 : p 5) (h6 : p 6) (h7 : p 7) (h8 : p 8) (h9 : p 9) (h10 : p 10) (h11 : p 11) (h12 : p 12) (h13 : p 13) (h14 : p 14) (h15 : p 15) (h16 : p 16) (h17 : p 17) (h18 : p 18) : ∀ i, i < 19 → p i := by
  intro i hi
  match i, hi with
  | 0, _ => exact h0
  | 1, _ => exact h1
  | 2, _ => exact h2
  | 3, _ => exact h3
  | 4, _ => exact h4
  | 5, _ => exact h5
  | 6, _ => exact h6
  | 7, _ => exact h7
  | 8, _ => exact h8
  | 9, _ => exact h9
  | 10, _ => exact h10
  | 11, _ => exact h11
  | 12, _ => exact h12
  | 13, _ => exact h13
  | 14, _ => exact h14
  | 15, _ => exact h15
  | 16, _ => exact h16
  | 17, _ => exact h17
  | 18, _ => exact h18
  | n + 19, h => exact absurd h (by omega)
theorem QX.cong {F : Nat → Prop} {W : World} {E E' : Nat → Value} (h : QX F W E) (he : ∀ i, i < 19 → E i = E' i) : QX F W E' := by
  obtain ⟨h1, h2, h3, h4, h5, h6, h7, h8, h9, h10, h11, h12⟩ := h
  have e5 := he 5 (by omega)
  rw [e5] at h1 h2 h6 h7 h9 h12
  have e0 := he 0 (by omega)
  have e1 := he 1 (by omega)
  have e2 := he 2 (by omega)
  have e3 := he 3 (by omega)
  have e4 := he 4 (by omega)
  have e12 := he 12 (by omega)
  have e13 := he 13 (by omega)
  have e14 := he 14 (by omega)
  have e15 := he 15 (by omega)
  have e16 := he 16 (by omega)
  rw [e0, e1, e2, e3, e4] at h1
  rw [e12, e13, e14, e15, e16] at h9
  exact ⟨h1, h2, he 6 (by omega) ▸ h3, he 7 (by omega) ▸ h4, he 8 (by omega) ▸ h5, he 9 (by omega) ▸ h6, he 10 (by omega) ▸ h7, he 11 (by omega) ▸ h8, h9, he 17 (by omega) ▸ h10, he 18 (by omega) ▸ h11, h12⟩
theorem QX.open {F : Nat → Prop} {W : World} {E : Nat → Value} (h : QX F W E) : ∃ op nm tx num a n c sa sn sc kd lm ls na nn nc ga gn gc sk oop onm otx onum oa on oc ky wi,
    ∀ i, i < 19 → E i = xE op nm tx num a n c sa sn sc kd lm ls na nn nc ga gn gc sk oop onm otx onum oa on oc ky wi i := by
  obtain ⟨⟨t, ht⟩, ⟨ss, hss⟩, ⟨kd, ekd⟩, ⟨lm, elm⟩, ⟨ls, els⟩, ⟨ns, na, nc, en, _⟩, ⟨gs, ga, gc, eg, _⟩, ⟨sk, esk⟩, ⟨o, ho⟩, ⟨ky, eky⟩, ⟨wi, ewi⟩, _⟩ := h
  obtain ⟨sa, sc, es, _⟩ := hss.rw (F := fun _ => True) (fun _ _ => trivial)
  obtain ⟨op, nm, tx, num, kids, a, c, et, _⟩ := ht.open
  obtain ⟨oop, onm, otx, onum, okids, oa, oc, eo, _⟩ := ho.open
  injection et with et
  injection eo with eo
  simp only [Array.mk.injEq, List.cons.injEq, and_true] at et eo
  obtain ⟨t0, t1, t2, t3, t4⟩ := et
  obtain ⟨o0, o1, o2, o3, o4⟩ := eo
  exact ⟨op, nm, tx, num, a, _, c, sa, _, sc, kd, lm, ls, na, _, nc, ga, _, gc, sk, oop, onm, otx, onum, oa, _, oc, ky, wi, below19 t0 t1 t2 t3 t4 es ekd elm els en eg esk o0 o1 o2 o3 o4 eky ewi⟩
/-- The lists are short. -/
def Small (E : Nat → Value) : Prop := sliceLen (E 4) ≤ 1000 ∧ sliceLen (E 5) ≤ 1000 ∧ sliceLen (E 9) ≤ 1000 ∧ sliceLen (E 10) ≤ 1000 ∧ sliceLen (E 16) ≤ 1000
theorem Small.cong {E E' : Nat → Value} (h : Small E) (he : ∀ i, i < 19 → E i = E' i) : Small E' := by
  unfold Small at *
  rw [← he 4 (by omega), ← he 5 (by omega), ← he 9 (by omega), ← he 10 (by omega), ← he 16 (by omega)]
  exact h
theorem RW.len {α : Type} {F : Nat → Prop} {k : Nat} {R : α → List Value → Prop} {w : World} {xs : List α} {v : Value} (h : RW F k R w xs v) : sliceLen v = xs.length := by
  obtain ⟨a, c, rfl, _⟩ := h
  rfl

/-- A query while it is made in the block b, the result's block r beside it. -/
structure RQ (g : Nat) (w : World) (G : Nat → Prop) (b r : Nat) (E : Nat → Value) (W : World) : Prop where
  gd : GD g w W
  rb : BK r 19 zE W
  bk : BK b 19 E W
  qe : QX G W E
  ne : b ≠ r
  hb : w.heap.size ≤ b
  hr : w.heap.size ≤ r
  hG : ∀ k, G k → k ≠ g ∧ k ≠ b ∧ k ≠ r
section
variable {g : Nat} {w W W' : World} {G : Nat → Prop} {b r : Nat} {E : Nat → Value}
theorem RQ.keep (h : RQ g w G b r E W) (hd : GD g w W') (hs : W.heap.size ≤ W'.heap.size) (hk : ∀ k, k ≠ g → k < W.heap.size → W'.heap[k]? = W.heap[k]?) : RQ g w G b r E W' :=
  ⟨hd, h.rb.keep (hk r (by have := h.hr; have := h.gd.hg; omega) h.rb.lt) hs, h.bk.keep (hk b (by have := h.hb; have := h.gd.hg; omega) h.bk.lt) hs, h.qe.go ⟨hs, fun k hj hl => ⟨hj, hk k (h.hG k hj).1 hl⟩⟩, h.ne, h.hb, h.hr, h.hG⟩
theorem RQ.gp (h : RQ g w G b r E W) (hd : GD g w W') (ha : Apart g W W') : RQ g w G b r E W' := h.keep hd ha.1.size fun _ h1 h2 => ha.block h1 h2
theorem RQ.go (h : RQ g w G b r E W) (ha : Apart g W W') (hc : CodesAt W' g) : RQ g w G b r E W' := h.gp (h.gd.go ha hc) ha
theorem RQ.on (h : RQ g w G b r E W) (hb : Below W.heap.size W W') : RQ g w G b r E W' := h.keep (h.gd.on (hb.mono h.gd.le)) hb.size fun k _ h2 => hb.block k h2
theorem RQ.al (h : RQ g w G b r E W) (o : Obj) : RQ g w G b r E (W.alloc o) := h.on ((Below.refl _ W).alloc (Nat.le_refl _) o)
theorem RQ.dr (h : RQ g w G b r E W) : RQ g w G b r E W.drew := h.on (Below.refl _ W).drew
theorem RQ.st (h : RQ g w G b r E W) (i : Nat) (hi : i < 19) (v : Value) (hq : QX G W (Upd E i v)) : RQ g w G b r (Upd E i v) (W.setCell ⟨b, i, none⟩ v) :=
  ⟨h.gd.set h.hb i v, h.rb.other (Ne.symm h.ne) i v, h.bk.set i hi v, hq.go ⟨by simp, fun k hk _ => ⟨hk, Below.heap_setCell _ _ _ k (by have := (h.hG k hk).2.1; simpa using this)⟩⟩, h.ne, h.hb, h.hr, h.hG⟩
theorem RQ.s6 (h : RQ g w G b r E W) (n : Int) : RQ g w G b r (Upd E 6 (.int .i64 n)) (W.setCell ⟨b, 6, none⟩ (.int .i64 n)) := h.st 6 (by omega) _ (h.qe.s6 n)
theorem RQ.s7 (h : RQ g w G b r E W) (n : Int) : RQ g w G b r (Upd E 7 (.int .i64 n)) (W.setCell ⟨b, 7, none⟩ (.int .i64 n)) := h.st 7 (by omega) _ (h.qe.s7 n)
theorem RQ.s8 (h : RQ g w G b r E W) (n : Bool) : RQ g w G b r (Upd E 8 (.bool n)) (W.setCell ⟨b, 8, none⟩ (.bool n)) := h.st 8 (by omega) _ (h.qe.s8 n)
theorem RQ.s11 (h : RQ g w G b r E W) (n : Int) : RQ g w G b r (Upd E 11 (.int .i64 n)) (W.setCell ⟨b, 11, none⟩ (.int .i64 n)) := h.st 11 (by omega) _ (h.qe.s11 n)
theorem RQ.s17 (h : RQ g w G b r E W) (s : List UInt8) : RQ g w G b r (Upd E 17 (.string ⟨s.toArray⟩)) (W.setCell ⟨b, 17, none⟩ (.string ⟨s.toArray⟩)) := h.st 17 (by omega) _ (h.qe.s17 s)
theorem RQ.s18 (h : RQ g w G b r E W) (n : Int) : RQ g w G b r (Upd E 18 (.int .i64 n)) (W.setCell ⟨b, 18, none⟩ (.int .i64 n)) := h.st 18 (by omega) _ (h.qe.s18 n)
theorem RQ.cong (h : RQ g w G b r E W) {E' : Nat → Value} (he : ∀ i, i < 19 → E i = E' i) : RQ g w G b r E' W := ⟨h.gd, h.rb, h.bk.cong he, h.qe.cong he, h.ne, h.hb, h.hr, h.hG⟩
end
def QPost (g : Nat) (w : World) (F : Nat → Prop) (e : Ending) (w' : World) : Prop := ∃ E, e = .returned (QV E) ∧ QX F w' E ∧ GD g w w' ∧ Small E
theorem nest19 (W : World) {b : Nat} {v0 v1 v2 v3 v4 v5 v6 v7 v8 v9 v10 v11 v12 v13 v14 v15 v16 v17 v18 : Value} : (((((((((((((((((((W.setCell ⟨b, 0, none⟩ v0).setCell ⟨b, 1, none⟩ v1).setCell ⟨b, 2, none⟩ v2).setCell ⟨b, 3, none⟩ v3).setCell ⟨b, 4, none⟩ v4).setCell ⟨b, 5, none⟩ v5).setCell ⟨b, 6, none⟩ v6).setCell ⟨b, 7, none⟩ v7).setCell ⟨b, 8, none⟩ v8).setCell ⟨b, 9, none⟩ v9).setCell ⟨b, 10, none⟩ v10).setCell ⟨b, 11, none⟩ v11).setCell ⟨b, 12, none⟩ v12).setCell ⟨b, 13, none⟩ v13).setCell ⟨b, 14, none⟩ v14).setCell ⟨b, 15, none⟩ v15).setCell ⟨b, 16, none⟩ v16).setCell ⟨b, 17, none⟩ v17).setCell ⟨b, 18, none⟩ v18) =
    setL W b [v0, v1, v2, v3, v4, v5, v6, v7, v8, v9, v10, v11, v12, v13, v14, v15, v16, v17, v18] 0 := rfl
/-- The end of Query and of Odd: the query is stored and handed back. -/
theorem q_ret {fn : Func} {P : Tmp} (hfn : fn.results = #[.cell P 29]) {F : Nat → Prop} {g : Nat} {w W : World} {G : Nat → Prop} {b r : Nat} {op : Int} {nm tx : List UInt8} {num : Int} {a : Option Addr} {n c : Nat} {sa : Option Addr} {sn sc : Nat} {kd lm : Int} {ls : Bool} {na : Option Addr} {nn nc : Nat} {ga : Option Addr} {gn gc : Nat} {sk : Int}
    {oop : Int} {onm otx : List UInt8} {onum : Int} {oa : Option Addr} {on oc : Nat} {ky : List UInt8} {wi : Int} (h : RQ g w G b r (xE op nm tx num a n c sa sn sc kd lm ls na nn nc ga gn gc sk oop onm otx onum oa on oc ky wi) W) (hF : ∀ k, G k → F k) (hsm : Small (xE op nm tx num a n c sa sn sc kd lm ls na nn nc ga gn gc sk oop onm otx onum oa on oc ky wi))
    (tmps : Array Value) (df : _) (hdf : df = []) (hp : tmps.getD P undef = .pointer (some ⟨r, 0, none⟩)) :
    bodyPost Try.prog fn (QPost g w F) Exit.ret { tmps := tmps, defers := df } (setL W r [.int .i64 op, .string ⟨nm.toArray⟩, .string ⟨tx.toArray⟩, .int .i64 num, .slice a n c, .slice sa sn sc, .int .i64 kd, .int .i64 lm, .bool ls, .slice na nn nc, .slice ga gn gc, .int .i64 sk, .int .i64 oop, .string ⟨onm.toArray⟩, .string ⟨otx.toArray⟩, .int .i64 onum, .slice oa on oc, .string ⟨ky.toArray⟩, .int .i64 wi] 0) := by
  have hb := setL_below (B := w.heap.size) (b := r) h.hr [.int .i64 op, .string ⟨nm.toArray⟩, .string ⟨tx.toArray⟩, .int .i64 num, .slice a n c, .slice sa sn sc, .int .i64 kd, .int .i64 lm, .bool ls, .slice na nn nc, .slice ga gn gc, .int .i64 sk, .int .i64 oop, .string ⟨onm.toArray⟩, .string ⟨otx.toArray⟩, .int .i64 onum, .slice oa on oc, .string ⟨ky.toArray⟩, .int .i64 wi] W 0
  have hc := setL_at (b := r) [.int .i64 op, .string ⟨nm.toArray⟩, .string ⟨tx.toArray⟩, .int .i64 num, .slice a n c, .slice sa sn sc, .int .i64 kd, .int .i64 lm, .bool ls, .slice na nn nc, .slice ga gn gc, .int .i64 sk, .int .i64 oop, .string ⟨onm.toArray⟩, .string ⟨otx.toArray⟩, .int .i64 onum, .slice oa on oc, .string ⟨ky.toArray⟩, .int .i64 wi] W 0 (fun j _ hj => ⟨_, h.rb.ev j (by simpa using hj)⟩)
  refine bodyPost_ret (results_item (ty := 29) hfn tmps _ r [.int .i64 op, .string ⟨nm.toArray⟩, .string ⟨tx.toArray⟩, .int .i64 num, .slice a n c, .slice sa sn sc, .int .i64 kd, .int .i64 lm, .bool ls, .slice na nn nc, .slice ga gn gc, .int .i64 sk, .int .i64 oop, .string ⟨onm.toArray⟩, .string ⟨otx.toArray⟩, .int .i64 onum, .slice oa on oc, .string ⟨ky.toArray⟩, .int .i64 wi] _ hp (fun j v hv => by have := hc j v hv; rwa [Nat.zero_add] at this) Try.underlying29 rfl (by kernel_rfl)) hdf ⟨xE op nm tx num a n c sa sn sc kd lm ls na nn nc ga gn gc sk oop onm otx onum oa on oc ky wi, rfl, ?_, h.gd.on hb, hsm⟩
  exact h.qe.go ⟨hb.size, fun k hk _ => ⟨hF k hk, setL_heap _ (h.hG k hk).2.2 _ _⟩⟩

end Go.Proofs.Ytmcnhphmglmmeaa

/-
  A query while one of its rows grows.
-/
import Derived.Test.YtmcnhphmglmmeaaQryV
namespace Go.Proofs.Ytmcnhphmglmmeaa
open Go.RowKit

structure LX {α : Type} (RR : (Nat → Prop) → World → α → List Value → Prop) (g : Nat) (w : World) (G : Nat → Prop) (b r : Nat) (E : Nat → Value) (c B : Nat) (e : TypeId) (k : Nat) (xs : List α) (v : Value) (W : World) : Prop where
  gd : GD g w W
  rb : BK r 19 zE W
  kl : KL RR G b 19 E c B e k xs v W
  qe : QX (fun j => G j ∧ j < B) W (Upd E c (.slice none 0 0))
  ne : b ≠ r
  hb : w.heap.size ≤ b
  hr : w.heap.size ≤ r
  rB : r < B
  hG : ∀ k, G k → k ≠ g ∧ k ≠ b ∧ k ≠ r
section
variable {α : Type} {RR : (Nat → Prop) → World → α → List Value → Prop} {g : Nat} {w W W' : World} {G : Nat → Prop} {b r : Nat} {E : Nat → Value} {c B : Nat} {e : TypeId} {k : Nat} {xs : List α} {v : Value}
theorem LX.keep (h : LX RR g w G b r E c B e k xs v W) (hRR : ∀ (F F' : Nat → Prop) (w w' : World), Stay F F' w w' → ∀ x us, RR F w x us → RR F' w' x us) (hd : GD g w W') (hs : W.heap.size ≤ W'.heap.size) (hk : ∀ k, k ≠ g → k < W.heap.size → W'.heap[k]? = W.heap[k]?) : LX RR g w G b r E c B e k xs v W' := by
  have hgw := h.gd.hg
  have hbB := h.kl.bB
  refine ⟨hd, h.rb.keep (hk r (by have := h.hr; omega) h.rb.lt) hs, h.kl.keep (fun x us hx => hRR _ _ _ _ ⟨hs, fun j hj hl => ⟨hj, hk j (h.hG j hj.1).1 hl⟩⟩ x us hx) hs (hk b (by have := h.hb; omega) h.kl.bk.lt) (fun j h1 h2 => hk j (by have := h.hb; omega) h2), h.qe.go ⟨hs, fun j hj hl => ⟨hj, hk j (h.hG j hj.1).1 hl⟩⟩, h.ne, h.hb, h.hr, h.rB, h.hG⟩
theorem LX.go (h : LX RR g w G b r E c B e k xs v W) (hRR : ∀ (F F' : Nat → Prop) (w w' : World), Stay F F' w w' → ∀ x us, RR F w x us → RR F' w' x us) (ha : Apart g W W') (hc : CodesAt W' g) : LX RR g w G b r E c B e k xs v W' := h.keep hRR (h.gd.go ha hc) ha.1.size fun _ h1 h2 => ha.block h1 h2
theorem LX.on (h : LX RR g w G b r E c B e k xs v W) (hRR : ∀ (F F' : Nat → Prop) (w w' : World), Stay F F' w w' → ∀ x us, RR F w x us → RR F' w' x us) (hb : Below W.heap.size W W') : LX RR g w G b r E c B e k xs v W' := h.keep hRR (h.gd.on (hb.mono h.gd.le)) hb.size fun k _ h2 => hb.block k h2
theorem LX.al (h : LX RR g w G b r E c B e k xs v W) (hRR : ∀ (F F' : Nat → Prop) (w w' : World), Stay F F' w w' → ∀ x us, RR F w x us → RR F' w' x us) (o : Obj) : LX RR g w G b r E c B e k xs v (W.alloc o) := h.on hRR ((Below.refl _ W).alloc (Nat.le_refl _) o)
theorem LX.dr (h : LX RR g w G b r E c B e k xs v W) (hRR : ∀ (F F' : Nat → Prop) (w w' : World), Stay F F' w w' → ∀ x us, RR F w x us → RR F' w' x us) : LX RR g w G b r E c B e k xs v W.drew := h.on hRR (Below.refl _ W).drew
theorem LX.start (h : RQ g w G b r E W) (hE : E c = .slice none 0 0) (hB : b < B) (hrB : r < B) (hBW : B ≤ W.heap.size) (hq : QX (fun j => G j ∧ j < B) W E) : LX RR g w G b r E c B e k [] (.slice none 0 0) W := by
  have hE2 : ∀ i, E i = Upd E c (.slice none 0 0) i := fun i => by
    unfold Upd
    split
    · next hi => rw [hi, hE]
    · rfl
  exact ⟨h.gd, h.rb, ⟨h.bk.cong fun i _ => hE2 i, OR.nil, hB, hBW⟩, hq.cong fun i _ => hE2 i, h.ne, h.hb, h.hr, hrB, h.hG⟩
theorem LX.push {g' n' cap H : Nat} {o : Obj} (h : LX RR g w G b r E c B e k xs v W) (hc : c < 19) (hgr : (W.alloc o).grownBy W' v.ownBlock) (hat : v.ownBlock = some g' ∨ g' = H) (hH : H = (W.alloc o).heap.size) (cs : List Value)
    (hcs : W.ownsRow B e k v xs.length cs)
    (hpush : ∀ (R' : α → List Value → Prop) (W' : World) (x : α) (us : List Value) (v' : Value), (∀ x us, RR (FF G v) W x us → R' x us) → us.length = k → R' x us → xs.length + 1 ≤ 1000000 → W'.ownsRow B e k v' (xs.length + 1) (cs ++ us) → OR B e k R' W' (xs ++ [x]) v')
    (hRR : ∀ (F F' : Nat → Prop) (w w' : World), Stay F F' w w' → ∀ x us, RR F w x us → RR F' w' x us) (x : α) (us : List Value) (hu : us.length = k) (hx : RR (FF G v) W x us) (hl : xs.length + 1 ≤ 1000000)
    (ho : W'.ownsRow B e k (.slice (some ⟨g', 0, none⟩) n' cap) (xs.length + 1) (cs ++ us)) :
    LX RR g w G b r E c B e k (xs ++ [x]) (.slice (some ⟨g', 0, none⟩) n' cap) (W'.setCell ⟨b, c, none⟩ (.slice (some ⟨g', 0, none⟩) n' cap)) ∧ W'.cell? ⟨b, c, none⟩ = some v ∧ W'.frozen? ⟨b, c, none⟩ = false := by
  have hB := push_below hgr hcs h.kl.BW
  have hbB := h.kl.bB
  have hwb := h.hb
  have hrB := h.rB
  have hset : ∀ j, j ≠ b → (W'.setCell ⟨b, c, none⟩ (.slice (some ⟨g', 0, none⟩) n' cap)).heap[j]? = W'.heap[j]? := fun j hj => Below.heap_setCell _ _ _ j (by simpa using hj)
  refine ⟨⟨(h.gd.on (hB.mono (by omega))).set h.hb _ _, (h.rb.on hB h.rB).other (Ne.symm h.ne) _ _, h.kl.push hc (fun hh => (h.hG b hh).2.1 rfl) hgr (hat.imp id (fun e => by rw [e, hH]; simp)) cs hcs hpush hRR x us hu hx hl ho, h.qe.go ⟨by simpa using hB.size, fun j hj hl => ⟨hj, (hset j (h.hG j hj.1).2.1).trans (hB.block j hj.2)⟩⟩, h.ne, h.hb, h.hr, h.rB, h.hG⟩, ?_, ?_⟩
  · exact (hB.cell (p := ⟨b, c, none⟩) hbB).trans (h.kl.cell hc)
  · exact (hB.frozen (p := ⟨b, c, none⟩) hbB).trans (h.kl.bk.fz c)
end
theorem upd_upd (E : Nat → Value) (c : Nat) (u v : Value) : ∀ i, Upd (Upd E c u) c v i = Upd E c v i := fun i => by
  unfold Upd
  split <;> rfl
theorem LX.fin5 {g : Nat} {w W : World} {G : Nat → Prop} {b r : Nat} {E : Nat → Value} {B : Nat} {ss : List QS} {v : Value} (h : LX SR g w G b r E 5 B 41 7 ss v W) (hBG : ∀ k, B ≤ k → G k) : RQ g w G b r (Upd E 5 v) W := by
  have hv : ∀ j, v.ownBlock = some j → B ≤ j := fun j hj => (h.kl.row.lt hj).1
  exact ⟨h.gd, h.rb, h.kl.bk, (h.qe.s5 (F' := G) ⟨ss, h.kl.row.own (fun _ _ => rfl) (fun _ _ hx => hx) 0 (Nat.zero_le _)⟩ (fun j hj => hBG j (hv j hj)) (fun k hk _ => ⟨hk.1.1, fun e => by have := hv k e; have := hk.1.2; omega⟩)).cong fun i _ => upd_upd E 5 _ _ i, h.ne, h.hb, h.hr, h.hG⟩
def GRR (_ : Nat → Prop) (_ : World) (s : Int × List UInt8) (us : List Value) : Prop := GR s us
theorem LX.fin10 {g : Nat} {w W : World} {G : Nat → Prop} {b r : Nat} {E : Nat → Value} {B : Nat} {e : TypeId} {gs : List (Int × List UInt8)} {v : Value} (h : LX GRR g w G b r E 10 B e 2 gs v W) (hBG : ∀ k, B ≤ k → G k) : RQ g w G b r (Upd E 10 v) W := by
  have hq := h.qe.go (F' := G) ⟨Nat.le_refl _, fun _ hk _ => ⟨hk.1, rfl⟩⟩
  have hr : RW (FF G (E 5)) 2 GR W gs v := (h.kl.row.rw (F := FF G (E 5)) (fun k hk => ⟨hBG k hk, fun e => by have := (h.qe.own k e).2; omega⟩)).go ⟨Nat.le_refl _, fun _ hk _ => ⟨hk, rfl⟩⟩ (fun _ _ hx => hx)
  exact ⟨h.gd, h.rb, h.kl.bk, (hq.s10 ⟨gs, hr⟩).cong fun i _ => upd_upd E 10 _ _ i, h.ne, h.hb, h.hr, h.hG⟩
theorem RQ.stay {g : Nat} {w W : World} {G : Nat → Prop} {b r : Nat} {E : Nat → Value} (h : RQ g w G b r E W) (i : Nat) (v : Value) : Stay G G W (W.setCell ⟨b, i, none⟩ v) :=
  ⟨by simp, fun k hk _ => ⟨hk, Below.heap_setCell _ _ _ k (by have := (h.hG k hk).2.1; simpa using this)⟩⟩
theorem RQ.s9 {g : Nat} {w W : World} {G : Nat → Prop} {b r : Nat} {E : Nat → Value} (h : RQ g w G b r E W) {ns : List (List UInt8)} {v : Value} (hv : RW (FF G (E 5)) 1 NR W ns v) : RQ g w G b r (Upd E 9 v) (W.setCell ⟨b, 9, none⟩ v) := h.st 9 (by omega) _ (h.qe.s9 ⟨ns, hv⟩)
theorem RQ.s10 {g : Nat} {w W : World} {G : Nat → Prop} {b r : Nat} {E : Nat → Value} (h : RQ g w G b r E W) {gs : List (Int × List UInt8)} {v : Value} (hv : RW (FF G (E 5)) 2 GR W gs v) : RQ g w G b r (Upd E 10 v) (W.setCell ⟨b, 10, none⟩ v) := h.st 10 (by omega) _ (h.qe.s10 ⟨gs, hv⟩)
theorem setL_past {b : Nat} (vs : List Value) : ∀ (W : World) (i j : Nat), i + vs.length ≤ j → (setL W b vs i).cell? ⟨b, j, none⟩ = W.cell? ⟨b, j, none⟩ := by
  induction vs with
  | nil => intro W i j _; rfl
  | cons v vs ih =>
    intro W i j h
    simp only [List.length_cons] at h
    rw [setL, ih _ _ _ (by omega), World.cell?_setCell_other _ _ _ _ (by intro e; simp only [Addr.mk.injEq] at e; omega)]
theorem setL_frozen {b : Nat} {p : Addr} (vs : List Value) : ∀ (W : World) (i : Nat), (setL W b vs i).frozen? p = W.frozen? p := by
  induction vs with
  | nil => intro W i; rfl
  | cons v vs ih => intro W i; rw [setL, ih, World.frozen?_setCell]
theorem RQ.five {g : Nat} {w W : World} {G : Nat → Prop} {b r : Nat} {E : Nat → Value} (h : RQ g w G b r E W) (i : Nat) (hi : i + 4 < 19) (vs : List Value) (hv : vs.length = 5) (hq : QX G W (fun j => if i ≤ j ∧ j < i + 5 then vs[j - i]! else E j)) :
    RQ g w G b r (fun j => if i ≤ j ∧ j < i + 5 then vs[j - i]! else E j) (setL W b vs i) := by
  refine ⟨h.gd.on (setL_below h.hb _ _ _), h.rb.keep (setL_heap _ (Ne.symm h.ne) _ _) (by rw [setL_size]; exact Nat.le_refl _), ⟨fun j hj => ?_, fun j => ?_, by rw [setL_size]; exact h.bk.lt⟩, hq.go ⟨by rw [setL_size]; exact Nat.le_refl _, fun k hk _ => ⟨hk, setL_heap _ (h.hG k hk).2.1 _ _⟩⟩, h.ne, h.hb, h.hr, h.hG⟩
  · by_cases hc : i ≤ j ∧ j < i + 5
    · simp only [hc, and_self, if_true]
      have := setL_at (b := b) vs W i (fun j _ hj => ⟨_, h.bk.ev j (by omega)⟩) (j - i) (vs[j - i]!) (by rw [getElem!_pos vs (j - i) (by omega)]; exact List.getElem?_eq_getElem _)
      rwa [show i + (j - i) = j by omega] at this
    · simp only [hc, if_false]
      rcases Nat.lt_or_ge j i with h1 | h1
      · rw [setL_other vs W i j h1]
        exact h.bk.ev j hj
      · rw [setL_past vs W i j (by omega)]
        exact h.bk.ev j hj
  · rw [setL_frozen]
    exact h.bk.fz j

end Go.Proofs.Ytmcnhphmglmmeaa

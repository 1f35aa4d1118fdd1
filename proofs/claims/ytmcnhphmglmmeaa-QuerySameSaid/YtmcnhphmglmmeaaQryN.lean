/-
  What the walks of Query and of Odd share, again.
-/
import Derived.Test.YtmcnhphmglmmeaaQryZ
namespace Go.Proofs.Ytmcnhphmglmmeaa
open Go.RowKit

theorem infoS : (Try.prog.info? 41).map (fun i => (i.zero, i.size, i.bytes)) = some (some (.agg #[.bool false, .string ⟨#[]⟩, .int .i64 0, .string ⟨#[]⟩, .string ⟨#[]⟩, .int .i64 0, .slice none 0 0]), 7, 96) := by kernel_rfl
theorem infoG : (Try.prog.info? 48).map (fun i => (i.zero, i.size, i.bytes)) = some (some (.agg #[.int .i64 0, .string ⟨#[]⟩]), 2, 24) := by kernel_rfl
def GQf (w : World) (b : Nat) : Nat → Prop := fun k => w.heap.size < k ∧ k ≠ b
theorem FF_of_nil {F F' : Nat → Prop} {w w' : World} (h : Stay F F' w w') : Stay F (FF F' (.slice none 0 0)) w w' := ⟨h.1, fun k hk hl => ⟨⟨(h.2 k hk hl).1, fun e => by cases (show (none : Option Nat) = some k from e)⟩, (h.2 k hk hl).2⟩⟩
theorem q_start {g : Nat} {w W : World} (hG : GD g w W) (hr : BK w.heap.size 19 zE W) (op : Int) (nm tx : List UInt8) (num : Int) (a : Option Addr) (n c : Nat) {t : QT} (hT : TG (fun k => w.heap.size < k) W t (.agg #[.int .i64 op, .string ⟨nm.toArray⟩, .string ⟨tx.toArray⟩, .int .i64 num, .slice a n c])) (hn : n ≤ 1000) :
    ∃ E0, LX SR g w (GQf w W.heap.size) W.heap.size w.heap.size E0 5 (W.heap.size + 1) 41 7 [] (.slice none 0 0) (W.alloc (.cells (qVal op nm tx num a n c none 0 0 0 0 false none 0 0 none 0 0 0 0 [] [] 0 none 0 0 [] 0) 29)) ∧ E0 10 = .slice none 0 0 ∧ Small E0 := by
  refine ⟨xE op nm tx num a n c none 0 0 0 0 false none 0 0 none 0 0 0 0 [] [] 0 none 0 0 [] 0, ?_, rfl, hn, Nat.zero_le _, Nat.zero_le _, Nat.zero_le _, Nat.zero_le _⟩
  have hst : Stay (fun k => w.heap.size < k) (fun j => GQf w W.heap.size j ∧ j < W.heap.size + 1) W (W.alloc (.cells (qVal op nm tx num a n c none 0 0 0 0 false none 0 0 none 0 0 0 0 [] [] 0 none 0 0 [] 0) 29)) :=
    ⟨by simp, fun k hk hl => ⟨⟨⟨hk, by omega⟩, by omega⟩, ((Below.refl _ W).alloc (Nat.le_refl _) _).block k hl⟩⟩
  have hq : QX (fun j => GQf w W.heap.size j ∧ j < W.heap.size + 1) (W.alloc (.cells (qVal op nm tx num a n c none 0 0 0 0 false none 0 0 none 0 0 0 0 [] [] 0 none 0 0 [] 0) 29)) (xE op nm tx num a n c none 0 0 0 0 false none 0 0 none 0 0 0 0 [] [] 0 none 0 0 [] 0) :=
    ⟨⟨t, TG.go (FF_of_nil hst) _ _ hT⟩, ⟨[], OR.nil⟩, ⟨0, rfl⟩, ⟨0, rfl⟩, ⟨false, rfl⟩, ⟨[], RW.nil⟩, ⟨[], RW.nil⟩, ⟨0, rfl⟩, ⟨_, TG.leaf _ _ 0 [] [] 0⟩, ⟨[], rfl⟩, ⟨0, rfl⟩, fun j h => by cases (show (none : Option Nat) = some j from h)⟩
  refine LX.start (E := xE op nm tx num a n c none 0 0 0 0 false none 0 0 none 0 0 0 0 [] [] 0 none 0 0 [] 0) ⟨hG.al _, hr.al _, BK.new W _ _ _ 19 (below19 rfl rfl rfl rfl rfl rfl rfl rfl rfl rfl rfl rfl rfl rfl rfl rfl rfl rfl rfl), hq.go ⟨Nat.le_refl _, fun _ hk _ => ⟨hk.1, rfl⟩⟩, Nat.ne_of_gt hr.lt, hG.le, Nat.le_refl _, fun k hk => ⟨by have := hG.hg; have := hk.1; omega, hk.2, Nat.ne_of_gt hk.1⟩⟩ rfl (Nat.lt_succ_self _) (by have := hr.lt; omega) (by simp) hq
def srcsO : Obj := .cells #[.string ⟨#[40, 109, 115, 58, 92, 100, 43, 41]⟩, .string ⟨#[40, 117, 115, 101, 114, 58, 91, 97, 45, 122, 93, 43, 41, 95, 40, 99, 111, 100, 101, 58, 92, 100, 41]⟩, .string ⟨#[120]⟩, .string ⟨#[40, 108, 101, 118, 101, 108, 58, 103, 101, 116, 124, 119, 97, 114, 110, 41]⟩] 9
theorem srcs_at (k : Nat) (hk : k < 4) : ∃ x : List UInt8, (∀ W : World, (W.alloc srcsO).cell? ⟨W.heap.size, k, none⟩ = some (.string ⟨x.toArray⟩)) ∧ (∀ h : k < ([Value.string ⟨#[40, 109, 115, 58, 92, 100, 43, 41]⟩, .string ⟨#[40, 117, 115, 101, 114, 58, 91, 97, 45, 122, 93, 43, 41, 95, 40, 99, 111, 100, 101, 58, 92, 100, 41]⟩, .string ⟨#[120]⟩, .string ⟨#[40, 108, 101, 118, 101, 108, 58, 103, 101, 116, 124, 119, 97, 114, 110, 41]⟩] : List Value).length, ([Value.string ⟨#[40, 109, 115, 58, 92, 100, 43, 41]⟩, .string ⟨#[40, 117, 115, 101, 114, 58, 91, 97, 45, 122, 93, 43, 41, 95, 40, 99, 111, 100, 101, 58, 92, 100, 41]⟩, .string ⟨#[120]⟩, .string ⟨#[40, 108, 101, 118, 101, 108, 58, 103, 101, 116, 124, 119, 97, 114, 110, 41]⟩] : List Value)[k]'h = .string ⟨x.toArray⟩) := by
  match k, hk with
  | 0, _ => exact ⟨[40, 109, 115, 58, 92, 100, 43, 41], fun W => by simp [go_sem, srcsO], fun _ => rfl⟩
  | 1, _ => exact ⟨[40, 117, 115, 101, 114, 58, 91, 97, 45, 122, 93, 43, 41, 95, 40, 99, 111, 100, 101, 58, 92, 100, 41], fun W => by simp [go_sem, srcsO], fun _ => rfl⟩
  | 2, _ => exact ⟨[120], fun W => by simp [go_sem, srcsO], fun _ => rfl⟩
  | 3, _ => exact ⟨[40, 108, 101, 118, 101, 108, 58, 103, 101, 116, 124, 119, 97, 114, 110, 41], fun W => by simp [go_sem, srcsO], fun _ => rfl⟩
def keysO : Obj := .cells #[.string ⟨#[64, 116, 114, 97, 99, 101]⟩, .string ⟨#[117, 115, 101, 114]⟩, .string ⟨#[108, 101, 118, 101, 108]⟩] 9
theorem keys_at (k : Nat) (hk : k < 3) : ∃ x : List UInt8, (∀ W : World, (W.alloc keysO).cell? ⟨W.heap.size, k, none⟩ = some (.string ⟨x.toArray⟩)) ∧ (∀ h : k < ([Value.string ⟨#[64, 116, 114, 97, 99, 101]⟩, .string ⟨#[117, 115, 101, 114]⟩, .string ⟨#[108, 101, 118, 101, 108]⟩] : List Value).length, ([Value.string ⟨#[64, 116, 114, 97, 99, 101]⟩, .string ⟨#[117, 115, 101, 114]⟩, .string ⟨#[108, 101, 118, 101, 108]⟩] : List Value)[k]'h = .string ⟨x.toArray⟩) := by
  match k, hk with
  | 0, _ => exact ⟨[64, 116, 114, 97, 99, 101], fun W => by simp [go_sem, keysO], fun _ => rfl⟩
  | 1, _ => exact ⟨[117, 115, 101, 114], fun W => by simp [go_sem, keysO], fun _ => rfl⟩
  | 2, _ => exact ⟨[108, 101, 118, 101, 108], fun W => by simp [go_sem, keysO], fun _ => rfl⟩
def fldsO : Obj := .cells #[.string ⟨#[109, 115]⟩, .string ⟨#[99, 111, 100, 101]⟩, .string ⟨#[64, 116, 105, 109, 101]⟩, .string ⟨#[108, 101, 118, 101, 108]⟩] 9
theorem flds_at (k : Nat) (hk : k < 4) : ∃ x : List UInt8, (∀ W : World, (W.alloc fldsO).cell? ⟨W.heap.size, k, none⟩ = some (.string ⟨x.toArray⟩)) ∧ (∀ h : k < ([Value.string ⟨#[109, 115]⟩, .string ⟨#[99, 111, 100, 101]⟩, .string ⟨#[64, 116, 105, 109, 101]⟩, .string ⟨#[108, 101, 118, 101, 108]⟩] : List Value).length, ([Value.string ⟨#[109, 115]⟩, .string ⟨#[99, 111, 100, 101]⟩, .string ⟨#[64, 116, 105, 109, 101]⟩, .string ⟨#[108, 101, 118, 101, 108]⟩] : List Value)[k]'h = .string ⟨x.toArray⟩) := by
  match k, hk with
  | 0, _ => exact ⟨[109, 115], fun W => by simp [go_sem, fldsO], fun _ => rfl⟩
  | 1, _ => exact ⟨[99, 111, 100, 101], fun W => by simp [go_sem, fldsO], fun _ => rfl⟩
  | 2, _ => exact ⟨[64, 116, 105, 109, 101], fun W => by simp [go_sem, fldsO], fun _ => rfl⟩
  | 3, _ => exact ⟨[108, 101, 118, 101, 108], fun W => by simp [go_sem, fldsO], fun _ => rfl⟩
theorem heap_alloc_new2 (w : World) (o oo : Obj) : ((w.alloc o).alloc oo).heap[w.heap.size + 1]? = some oo := by
  have := heap_alloc_new (w.alloc o) oo
  rwa [show (w.alloc o).heap.size = w.heap.size + 1 by simp] at this
theorem stage_one (ex : Bool) (src : List UInt8) (op : Int) (nm tx : List UInt8) (num : Int) (a : Option Addr) (n c : Nat) : ∀ u ∈ [Value.bool ex, .string ⟨src.toArray⟩, .int .i64 op, .string ⟨nm.toArray⟩, .string ⟨tx.toArray⟩, .int .i64 num, .slice a n c], u.oneCell' = true := by
  intro u hu
  simp only [List.mem_cons, List.not_mem_nil, or_false] at hu
  rcases hu with rfl | rfl | rfl | rfl | rfl | rfl | rfl <;> rfl
theorem agg_one (k : Int) (f : List UInt8) : ∀ u ∈ [Value.int .i64 k, .string ⟨f.toArray⟩], u.oneCell' = true := by
  intro u hu
  simp only [List.mem_cons, List.not_mem_nil, or_false] at hu
  rcases hu with rfl | rfl <;> rfl
theorem sr_go (F F' : Nat → Prop) (w w' : World) (h : Stay F F' w w') : ∀ x us, SR F w x us → SR F' w' x us := fun x us hx => SR.go h x us hx
theorem gr_go (F F' : Nat → Prop) (w w' : World) (_ : Stay F F' w w') : ∀ x us, GRR F w x us → GRR F' w' x us := fun _ _ hx => hx
theorem sr_leaf (F : Nat → Prop) (w : World) (ex : Bool) (src : List UInt8) : SR F w ⟨ex, src, .node 0 [] [] 0 []⟩ [.bool ex, .string ⟨src.toArray⟩, .int .i64 0, .string ⟨#[]⟩, .string ⟨#[]⟩, .int .i64 0, .slice none 0 0] := ⟨_, rfl, TG.leaf F w 0 [] [] 0⟩
theorem lx_new {α : Type} {RR : (Nat → Prop) → World → α → List Value → Prop} {g : Nat} {w : World} {b r c B k : Nat} {e : TypeId} {E : Nat → Value} {xs : List α} {v : Value} {W W' : World} {t : QT} {x : Value} (h : LX RR g w (GQf w b) b r E c B e k xs v W)
    (hT : TG (fun k => W.heap.size ≤ k) W' t x) : TG (FF (GQf w b) v) W' t x :=
  TG.go ⟨Nat.le_refl _, fun k hk _ => ⟨⟨⟨by have := h.kl.bk.lt; have := h.hb; omega, by have := h.kl.bk.lt; omega⟩, fun e => by
    obtain ⟨cs, hown, _⟩ := h.kl.row.cells
    have := (hown.lt k e).2
    omega⟩, rfl⟩⟩ _ _ hT

theorem LX.other {g : Nat} {w : World} {G : Nat → Prop} {b r : Nat} {E : Nat → Value} {c B : Nat} {e : TypeId} {k : Nat} {xs : List (Int × List UInt8)} {v : Value} {W : World} (h : LX GRR g w G b r E c B e k xs v W) {A : Nat} (hB : B ≤ A) (hv : v.ownBlock ≠ some A) (i : Nat) (u : Value) :
    LX GRR g w G b r E c B e k xs v (W.setCell ⟨A, i, none⟩ u) := by
  have h1 := h.hr
  have h2 := h.rB
  have h3 := h.kl.bB
  refine ⟨h.gd.set (by omega) i u, h.rb.other (by omega) i u, ⟨h.kl.bk.other (by omega) i u, ?_, h3, by simpa using h.kl.BW⟩, h.qe.go ⟨by simp, fun j hj _ => ⟨hj, Below.heap_setCell _ _ _ j (by have := hj.2; simp; omega)⟩⟩, h.ne, h.hb, h.hr, h.rB, h.hG⟩
  obtain ⟨⟨uss, hlen, hel, h0, ho⟩, hsz⟩ := h.kl.row
  refine ⟨⟨uss, hlen, fun i h h' => ⟨(hel i h h').1, (hel i h h').2⟩, h0, ho.imp id ?_⟩, hsz⟩
  rintro ⟨g', cap, cur, rfl, hb', hg', hrest⟩
  exact ⟨g', cap, cur, rfl, hb', (Below.heap_setCell _ _ _ g' (by intro e; simp at e; subst e; exact hv rfl)).trans hg', hrest⟩
/-- The one aggregate is stored anew. -/
theorem RQ.agg {g : Nat} {w : World} {G : Nat → Prop} {b r : Nat} {E : Nat → Value} {W : World} {A : Nat} {EA : Nat → Value} (h : RQ g w G b r E W) (hq : QX (fun k => G k ∧ k ≠ A) W (Upd E 10 (.slice none 0 0))) (hE : E 10 = .slice (some ⟨A, 0, none⟩) 1 1) (hA : BK A 2 EA W) (hGA : G A) (hw : w.heap.size ≤ A) (k : Int) (s : List UInt8) :
    RQ g w G b r E ((W.setCell ⟨A, 0, none⟩ (.int .i64 k)).setCell ⟨A, 1, none⟩ (.string ⟨s.toArray⟩)) := by
  have hn := h.hG A hGA
  have hA2 := ((hA.set 0 (by omega) (.int .i64 k)).set 1 (by omega) (.string ⟨s.toArray⟩))
  refine ⟨(h.gd.set hw _ _).set hw _ _, (h.rb.other (Ne.symm hn.2.2) _ _).other (Ne.symm hn.2.2) _ _, (h.bk.other (Ne.symm hn.2.1) _ _).other (Ne.symm hn.2.1) _ _, ?_, h.ne, h.hb, h.hr, h.hG⟩
  have hq2 := hq.go (F' := G) (w' := (W.setCell ⟨A, 0, none⟩ (.int .i64 k)).setCell ⟨A, 1, none⟩ (.string ⟨s.toArray⟩)) ⟨by simp, fun j hj _ => ⟨hj.1, (Below.heap_setCell _ _ _ j (by have := hj.2; simpa using this)).trans (Below.heap_setCell _ _ _ j (by have := hj.2; simpa using this))⟩⟩
  have hrow : RW (FF G (E 5)) 2 GR ((W.setCell ⟨A, 0, none⟩ (.int .i64 k)).setCell ⟨A, 1, none⟩ (.string ⟨s.toArray⟩)) [(k, s)] (.slice (some ⟨A, 0, none⟩) 1 1) := by
    refine ⟨_, 1, rfl, ⟨by simp, fun e => by cases e⟩, fun _ => ⟨A, 0, rfl, hA2.lt, ⟨hGA, fun e => (hq.own A e).2 rfl⟩, fun i hi => ⟨[.int .i64 k, .string ⟨s.toArray⟩], rfl, fun j hj => ?_, ?_⟩⟩⟩
    · simp only [List.length_singleton] at hi
      obtain rfl : i = 0 := by omega
      match j, hj with
      | 0, _ => exact hA2.ev 0 (by omega)
      | 1, _ => exact hA2.ev 1 (by omega)
    · simp only [List.length_singleton] at hi
      obtain rfl : i = 0 := by omega
      rfl
  refine (hq2.s10 ⟨[(k, s)], hrow⟩).cong fun i _ => ?_
  rw [upd_upd]
  unfold Upd
  split
  · next hi => rw [hi, hE]
  · rfl

end Go.Proofs.Ytmcnhphmglmmeaa

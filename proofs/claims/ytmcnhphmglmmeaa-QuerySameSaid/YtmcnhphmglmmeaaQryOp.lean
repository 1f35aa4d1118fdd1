/-
  What the walk of Odd leans on.
-/
import Derived.Test.YtmcnhphmglmmeaaQryN
import Derived.Test.YtmcnhphmglmmeaaQryS
import Derived.Deep.Onto
namespace Go.Proofs.Ytmcnhphmglmmeaa
open Go.RowKit

section
variable {g : Nat} {w W W' : World} {G G' : Nat → Prop} {b r : Nat} {E : Nat → Value}
theorem RQ.shut (h : RQ g w G b r E W) : RQ g w (fun k => G k ∧ k < W.heap.size) b r E W := ⟨h.gd, h.rb, h.bk, h.qe.go ⟨Nat.le_refl _, fun _ hk hl => ⟨⟨hk, hl⟩, rfl⟩⟩, h.ne, h.hb, h.hr, fun k hk => h.hG k hk.1⟩
theorem RQ.wide (h : RQ g w G b r E W) (h1 : ∀ k, G k → G' k) (h2 : ∀ k, G' k → k ≠ g ∧ k ≠ b ∧ k ≠ r) : RQ g w G' b r E W := ⟨h.gd, h.rb, h.bk, h.qe.go ⟨Nat.le_refl _, fun k hk _ => ⟨h1 k hk, rfl⟩⟩, h.ne, h.hb, h.hr, h2⟩
theorem RQ.onB (h : RQ g w G b r E W) {B : Nat} (hB : Below B W W') (hG : ∀ k, G k → k < B) (hb : b < B) (hr : r < B) (hw : w.heap.size ≤ B) : RQ g w G b r E W' :=
  ⟨h.gd.on (hB.mono hw), h.rb.on hB hr, h.bk.on hB hb, h.qe.go ⟨hB.size, fun k hk _ => ⟨hk, hB.block k (hG k hk)⟩⟩, h.ne, h.hb, h.hr, h.hG⟩
end
def GO (g : Nat) (w : World) : Nat → Prop := fun k => k ≠ g ∧ k ≠ w.heap.size ∧ k ≠ w.heap.size + 1
def OPost (g : Nat) (w0 w : World) (E : Nat → Value) (e : Ending) (w' : World) : Prop := ∃ E', e = .returned (QV E') ∧ QE (fun _ => True) w' E' ∧ QE (fun _ => True) w' E ∧ GD g w0 w' ∧ w.heap.size ≤ w'.heap.size ∧ ∀ k, k < w.heap.size → k ≠ g → (E 5).ownBlock ≠ some k → w'.heap[k]? = w.heap[k]?
theorem o_start {g : Nat} {w : World} (hc : CodesAt w g) {op : Int} {nm tx : List UInt8} {num : Int} {a : Option Addr} {n c : Nat} {sa : Option Addr} {sn sc : Nat} {kd lm : Int} {ls : Bool} {na : Option Addr} {nn nc : Nat} {ga : Option Addr} {gn gc : Nat} {sk : Int} {oop : Int} {onm otx : List UInt8} {onum : Int} {oa : Option Addr} {on oc : Nat} {ky : List UInt8} {wi : Int} (hq : QX (fun k => k ≠ g) w (xE op nm tx num a n c sa sn sc kd lm ls na nn nc ga gn gc sk oop onm otx onum oa on oc ky wi)) :
    RQ g w (GO g w) w.heap.size (w.heap.size + 1) (xE op nm tx num a n c sa sn sc kd lm ls na nn nc ga gn gc sk oop onm otx onum oa on oc ky wi) ((w.alloc (.cells (qVal op nm tx num a n c sa sn sc kd lm ls na nn nc ga gn gc sk oop onm otx onum oa on oc ky wi) 29)).alloc (.cells (qVal 0 [] [] 0 none 0 0 none 0 0 0 0 false none 0 0 none 0 0 0 0 [] [] 0 none 0 0 [] 0) 29)) := by
  refine ⟨((GD.start hc).al _).al _, ?_, (BK.new w _ _ _ 19 (below19 rfl rfl rfl rfl rfl rfl rfl rfl rfl rfl rfl rfl rfl rfl rfl rfl rfl rfl rfl)).al _, hq.go ⟨by simp; omega, fun k hk hl => ⟨⟨hk, by omega, by omega⟩, (((Below.refl _ w).alloc (Nat.le_refl _) _).alloc (by simp) _).block k hl⟩⟩, by omega, Nat.le_refl _, by omega, fun k hk => hk⟩
  have := BK.new (w.alloc (.cells (qVal op nm tx num a n c sa sn sc kd lm ls na nn nc ga gn gc sk oop onm otx onum oa on oc ky wi) 29)) (qVal 0 [] [] 0 none 0 0 none 0 0 0 0 false none 0 0 none 0 0 0 0 [] [] 0 none 0 0 [] 0) 29 zE 19 (below19 rfl rfl rfl rfl rfl rfl rfl rfl rfl rfl rfl rfl rfl rfl rfl rfl rfl rfl rfl)
  simpa using this
/-- What came in still lies there. -/
theorem x_stays {g : Nat} {w0 w W : World} {E : Nat → Value} (h0 : GD g w0 w) (hx : QX (fun k => w0.heap.size ≤ k) w E) (h : GD g w W) : QE (fun _ => True) W E :=
  (hx.go (F' := fun _ => True) ⟨h.le, fun k hk hl => ⟨trivial, h.ap.block (by have := h0.hg; omega) hl⟩⟩).qe
theorem o_ret {g : Nat} {w0 w W : World} {Ex : Nat → Value} (h0 : GD g w0 w) (hx : QX (fun k => w0.heap.size ≤ k) w Ex) {op : Int} {nm tx : List UInt8} {num : Int} {a : Option Addr} {n c : Nat} {sa : Option Addr} {sn sc : Nat} {kd lm : Int} {ls : Bool} {na : Option Addr} {nn nc : Nat} {ga : Option Addr} {gn gc : Nat} {sk : Int} {oop : Int} {onm otx : List UInt8} {onum : Int} {oa : Option Addr} {on oc : Nat} {ky : List UInt8} {wi : Int} (h : RQ g w (GO g w) w.heap.size (w.heap.size + 1) (xE op nm tx num a n c sa sn sc kd lm ls na nn nc ga gn gc sk oop onm otx onum oa on oc ky wi) W)
    (tmps : Array Value) (df : _) (hdf : df = []) (hp : tmps.getD 4 undef = .pointer (some ⟨w.heap.size + 1, 0, none⟩)) :
    bodyPost Try.prog Try.f8 (OPost g w0 w Ex) Exit.ret { tmps := tmps, defers := df } (setL W (w.heap.size + 1) [.int .i64 op, .string ⟨nm.toArray⟩, .string ⟨tx.toArray⟩, .int .i64 num, .slice a n c, .slice sa sn sc, .int .i64 kd, .int .i64 lm, .bool ls, .slice na nn nc, .slice ga gn gc, .int .i64 sk, .int .i64 oop, .string ⟨onm.toArray⟩, .string ⟨otx.toArray⟩, .int .i64 onum, .slice oa on oc, .string ⟨ky.toArray⟩, .int .i64 wi] 0) := by
  have hb := setL_below (B := w.heap.size) (b := w.heap.size + 1) (by omega) [.int .i64 op, .string ⟨nm.toArray⟩, .string ⟨tx.toArray⟩, .int .i64 num, .slice a n c, .slice sa sn sc, .int .i64 kd, .int .i64 lm, .bool ls, .slice na nn nc, .slice ga gn gc, .int .i64 sk, .int .i64 oop, .string ⟨onm.toArray⟩, .string ⟨otx.toArray⟩, .int .i64 onum, .slice oa on oc, .string ⟨ky.toArray⟩, .int .i64 wi] W 0
  have hc := setL_at (b := w.heap.size + 1) [.int .i64 op, .string ⟨nm.toArray⟩, .string ⟨tx.toArray⟩, .int .i64 num, .slice a n c, .slice sa sn sc, .int .i64 kd, .int .i64 lm, .bool ls, .slice na nn nc, .slice ga gn gc, .int .i64 sk, .int .i64 oop, .string ⟨onm.toArray⟩, .string ⟨otx.toArray⟩, .int .i64 onum, .slice oa on oc, .string ⟨ky.toArray⟩, .int .i64 wi] W 0 (fun j _ hj => ⟨_, h.rb.ev j (by simpa using hj)⟩)
  refine bodyPost_ret (results_item (ty := 29) rfl tmps _ (w.heap.size + 1) [.int .i64 op, .string ⟨nm.toArray⟩, .string ⟨tx.toArray⟩, .int .i64 num, .slice a n c, .slice sa sn sc, .int .i64 kd, .int .i64 lm, .bool ls, .slice na nn nc, .slice ga gn gc, .int .i64 sk, .int .i64 oop, .string ⟨onm.toArray⟩, .string ⟨otx.toArray⟩, .int .i64 onum, .slice oa on oc, .string ⟨ky.toArray⟩, .int .i64 wi] _ hp (fun j v hv => by have := hc j v hv; rwa [Nat.zero_add] at this) Try.underlying29 rfl (by kernel_rfl)) hdf ⟨(xE op nm tx num a n c sa sn sc kd lm ls na nn nc ga gn gc sk oop onm otx onum oa on oc ky wi), rfl, ?_, x_stays h0 hx (h.gd.on hb), h0.go (h.gd.on hb).ap (h.gd.on hb).codes, (h.gd.on hb).le, fun k hk hg _ => (h.gd.on hb).ap.block hg hk⟩
  exact (h.qe.go (F' := GO g w) ⟨hb.size, fun k hk _ => ⟨hk, setL_heap _ hk.2.2 _ _⟩⟩).qe
theorem nr_one (x : List UInt8) (us : List Value) (h : NR x us) : ∀ u ∈ us, u.oneCell' = true := by
  unfold NR at h
  subst h
  intro u hu
  simp only [List.mem_cons, List.not_mem_nil, or_false] at hu
  subst hu
  rfl
theorem gr_one (x : Int × List UInt8) (us : List Value) (h : GR x us) : ∀ u ∈ us, u.oneCell' = true := by
  unfold GR at h
  subst h
  exact agg_one _ _
theorem str_one (x : List UInt8) : ∀ u ∈ [Value.string ⟨x.toArray⟩], u.oneCell' = true := nr_one x _ rfl
def namsO : Obj := .cells #[.string ⟨#[]⟩, .string ⟨#[97, 110, 100]⟩, .string ⟨#[57]⟩, .string ⟨#[97, 32, 98]⟩, .string ⟨#[111, 107]⟩] 9
theorem nams_at (k : Nat) (hk : k < 5) : ∃ x : List UInt8, (∀ W : World, (W.alloc namsO).cell? ⟨W.heap.size, k, none⟩ = some (.string ⟨x.toArray⟩)) ∧ (∀ h : k < ([Value.string ⟨#[]⟩, .string ⟨#[97, 110, 100]⟩, .string ⟨#[57]⟩, .string ⟨#[97, 32, 98]⟩, .string ⟨#[111, 107]⟩] : List Value).length, ([Value.string ⟨#[]⟩, .string ⟨#[97, 110, 100]⟩, .string ⟨#[57]⟩, .string ⟨#[97, 32, 98]⟩, .string ⟨#[111, 107]⟩] : List Value)[k]'h = .string ⟨x.toArray⟩) := by
  match k, hk with
  | 0, _ => exact ⟨[], fun W => by simp [go_sem, namsO], fun _ => rfl⟩
  | 1, _ => exact ⟨[97, 110, 100], fun W => by simp [go_sem, namsO], fun _ => rfl⟩
  | 2, _ => exact ⟨[57], fun W => by simp [go_sem, namsO], fun _ => rfl⟩
  | 3, _ => exact ⟨[97, 32, 98], fun W => by simp [go_sem, namsO], fun _ => rfl⟩
  | 4, _ => exact ⟨[111, 107], fun W => by simp [go_sem, namsO], fun _ => rfl⟩
def agnsO : Obj := .cells #[.string ⟨#[]⟩, .string ⟨#[109, 115]⟩, .string ⟨#[111, 114]⟩] 9
theorem agns_at (k : Nat) (hk : k < 3) : ∃ x : List UInt8, (∀ W : World, (W.alloc agnsO).cell? ⟨W.heap.size, k, none⟩ = some (.string ⟨x.toArray⟩)) ∧ (∀ h : k < ([Value.string ⟨#[]⟩, .string ⟨#[109, 115]⟩, .string ⟨#[111, 114]⟩] : List Value).length, ([Value.string ⟨#[]⟩, .string ⟨#[109, 115]⟩, .string ⟨#[111, 114]⟩] : List Value)[k]'h = .string ⟨x.toArray⟩) := by
  match k, hk with
  | 0, _ => exact ⟨[], fun W => by simp [go_sem, agnsO], fun _ => rfl⟩
  | 1, _ => exact ⟨[109, 115], fun W => by simp [go_sem, agnsO], fun _ => rfl⟩
  | 2, _ => exact ⟨[111, 114], fun W => by simp [go_sem, agnsO], fun _ => rfl⟩
def srnO : Obj := .cells #[.string ⟨#[]⟩, .string ⟨#[40]⟩, .string ⟨#[97]⟩] 9
theorem srn_at (k : Nat) (hk : k < 3) : ∃ x : List UInt8, (∀ W : World, (W.alloc srnO).cell? ⟨W.heap.size, k, none⟩ = some (.string ⟨x.toArray⟩)) ∧ (∀ h : k < ([Value.string ⟨#[]⟩, .string ⟨#[40]⟩, .string ⟨#[97]⟩] : List Value).length, ([Value.string ⟨#[]⟩, .string ⟨#[40]⟩, .string ⟨#[97]⟩] : List Value)[k]'h = .string ⟨x.toArray⟩) := by
  match k, hk with
  | 0, _ => exact ⟨[], fun W => by simp [go_sem, srnO], fun _ => rfl⟩
  | 1, _ => exact ⟨[40], fun W => by simp [go_sem, srnO], fun _ => rfl⟩
  | 2, _ => exact ⟨[97], fun W => by simp [go_sem, srnO], fun _ => rfl⟩
def key2O : Obj := .cells #[.string ⟨#[]⟩, .string ⟨#[97, 45, 98]⟩, .string ⟨#[106, 111, 105, 110]⟩, .string ⟨#[64]⟩] 9
theorem key2_at (k : Nat) (hk : k < 4) : ∃ x : List UInt8, (∀ W : World, (W.alloc key2O).cell? ⟨W.heap.size, k, none⟩ = some (.string ⟨x.toArray⟩)) ∧ (∀ h : k < ([Value.string ⟨#[]⟩, .string ⟨#[97, 45, 98]⟩, .string ⟨#[106, 111, 105, 110]⟩, .string ⟨#[64]⟩] : List Value).length, ([Value.string ⟨#[]⟩, .string ⟨#[97, 45, 98]⟩, .string ⟨#[106, 111, 105, 110]⟩, .string ⟨#[64]⟩] : List Value)[k]'h = .string ⟨x.toArray⟩) := by
  match k, hk with
  | 0, _ => exact ⟨[], fun W => by simp [go_sem, key2O], fun _ => rfl⟩
  | 1, _ => exact ⟨[97, 45, 98], fun W => by simp [go_sem, key2O], fun _ => rfl⟩
  | 2, _ => exact ⟨[106, 111, 105, 110], fun W => by simp [go_sem, key2O], fun _ => rfl⟩
  | 3, _ => exact ⟨[64], fun W => by simp [go_sem, key2O], fun _ => rfl⟩

end Go.Proofs.Ytmcnhphmglmmeaa

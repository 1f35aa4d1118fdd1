/-
  What the walks of Test and of Wrong share.
-/
import Derived.Test.YtmcnhphmglmmeaaQryO
import Derived.Deep.DeepCutAuto
import Derived.Deep.RegionHeld3
import Derived.Deep.RegionLaw
import Derived.Deep.AppendLies
namespace Go.Proofs.Ytmcnhphmglmmeaa
open Go.RowKit

/-- How long a slice is. -/
def sliceLen : Value → Nat
  | .slice _ n _ => n
  | _ => 0
def kidsLen : Value → Nat
  | .agg a => sliceLen (a.getD 4 undef)
  | _ => 0
def TP (g : Nat) (w : World) (e : Ending) (w' : World) : Prop := ∃ v t, e = .returned v ∧ TG (fun k => w.heap.size ≤ k) w' t v ∧ GD g w w' ∧ kidsLen v ≤ 1000
theorem BK.five {b : Nat} {E : Nat → Value} {W : World} (h : BK b 5 E W) : W.cell? ⟨b, 0, none⟩ = some (E 0) ∧ W.cell? ⟨b, 1, none⟩ = some (E 1) ∧ W.cell? ⟨b, 2, none⟩ = some (E 2) ∧ W.cell? ⟨b, 3, none⟩ = some (E 3) ∧ W.cell? ⟨b, 4, none⟩ = some (E 4) ∧
    W.frozen? ⟨b, 0, none⟩ = false ∧ W.frozen? ⟨b, 1, none⟩ = false ∧ W.frozen? ⟨b, 2, none⟩ = false ∧ W.frozen? ⟨b, 3, none⟩ = false ∧ W.frozen? ⟨b, 4, none⟩ = false :=
  ⟨h.ev 0 (by omega), h.ev 1 (by omega), h.ev 2 (by omega), h.ev 3 (by omega), h.ev 4 (by omega), h.fz 0, h.fz 1, h.fz 2, h.fz 3, h.fz 4⟩
theorem nest5 (W : World) {b : Nat} {v0 v1 v2 v3 v4 : Value} : (((((W.setCell ⟨b, 0, none⟩ v0).setCell ⟨b, 1, none⟩ v1).setCell ⟨b, 2, none⟩ v2).setCell ⟨b, 3, none⟩ v3).setCell ⟨b, 4, none⟩ v4) = setL W b [v0, v1, v2, v3, v4] 0 := rfl
/-- The end of Test: the test is stored and handed back. -/
theorem test_ret {w W : World} {g : Nat} {E : Nat → Value} (hG : GD g w W) (hB : BK w.heap.size 5 E W) (tmps : Array Value) (df : _) (hdf : df = []) (hp : tmps.getD 4 undef = .pointer (some ⟨w.heap.size, 0, none⟩)) {v0 v1 v2 v3 v4 : Value} {t : QT} (hT : TG (fun k => w.heap.size < k) W t (.agg #[v0, v1, v2, v3, v4])) (hk : sliceLen v4 ≤ 1000) :
    bodyPost Try.prog Try.f14 (TP g w) Exit.ret { tmps := tmps, defers := df } (setL W w.heap.size [v0, v1, v2, v3, v4] 0) := by
  have hb := setL_below (B := w.heap.size) (b := w.heap.size) (Nat.le_refl _) [v0, v1, v2, v3, v4] W 0
  have hc := setL_at (b := w.heap.size) [v0, v1, v2, v3, v4] W 0 (fun j _ hj => ⟨_, hB.ev j (by simpa using hj)⟩)
  refine bodyPost_ret (results_item (ty := 24) rfl tmps _ w.heap.size [v0, v1, v2, v3, v4] _ hp (fun j v hv => by have := hc j v hv; rwa [Nat.zero_add] at this) Try.underlying24 rfl (by kernel_rfl)) hdf ⟨_, t, rfl, TG.go ⟨hb.size, fun j hj _ => ⟨Nat.le_of_lt hj, setL_heap _ (Nat.ne_of_gt hj) _ _⟩⟩ _ _ hT, hG.on hb, hk⟩
theorem lit_gd (g : Nat) (w W : World) (fs : List (List UInt8)) (hG : GD g w W) (h0 : 0 < fs.length) (h1 : fs.length ≤ 1000) :
    Calls Try.prog 15 #[.pointer (some ⟨g, 0, none⟩), .int .i64 fs.length] (W.alloc (.cells (fs.map fun f => Value.string ⟨f.toArray⟩).toArray 9)) (fun e w' =>
      ∃ (k : Nat) (x : List UInt8), k < fs.length ∧ e = .returned (.int .i64 k) ∧ w'.cell? ⟨W.heap.size, k, none⟩ = some (.string ⟨x.toArray⟩) ∧ W.heap.size < w'.heap.size ∧ GD g w w' ∧ Apart g W w') := by
  refine (lit_next g W fs hG.codes h0 h1).mono ?_
  rintro e w' ⟨k, x, hk, _, rfl, hc, hca, hap⟩
  exact ⟨k, x, hk, rfl, hc, World.block_lt_of_cell? _ _ hc, hG.go hap hca, hap⟩
def leafE (op : Int) (nm tx : List UInt8) (num : Int) : Nat → Value := fun i => (#[.int .i64 op, .string ⟨nm.toArray⟩, .string ⟨tx.toArray⟩, .int .i64 num, .slice none 0 0] : Array Value)[i]!
/-- Where Test stands once the choice is made. -/
structure TS (g : Nat) (w W : World) : Prop where
  gd : GD g w W
  bk : BK w.heap.size 5 (leafE 0 [] [] 0) W
theorem TS.go {g : Nat} {w W W' : World} (h : TS g w W) (ha : Apart g W W') (hc : CodesAt W' g) : TS g w W' := ⟨h.gd.go ha hc, h.bk.go ha (Nat.ne_of_gt h.gd.hg)⟩
theorem TS.al {g : Nat} {w W : World} (h : TS g w W) (o : Obj) : TS g w (W.alloc o) := ⟨h.gd.al o, h.bk.al o⟩
theorem TS.dr {g : Nat} {w W : World} (h : TS g w W) : TS g w W.drew := ⟨h.gd.dr, h.bk.dr⟩
theorem TS.gp {g : Nat} {w W W' : World} (h : TS g w W) (hd : GD g w W') (ha : Apart g W W') : TS g w W' := ⟨hd, h.bk.go ha (Nat.ne_of_gt h.gd.hg)⟩
theorem TS.start {g : Nat} {w : World} (hc : CodesAt w g) : TS g w (w.alloc (.cells #[.int .i64 0, .string ⟨#[]⟩, .string ⟨#[]⟩, .int .i64 0, .slice none 0 0] 24)) :=
  ⟨(GD.start hc).al _, BK.new w _ _ _ 5 (fun i hi => by
    match i, hi with
    | 0, _ => rfl
    | 1, _ => rfl
    | 2, _ => rfl
    | 3, _ => rfl
    | 4, _ => rfl)⟩

/-- A cell that is there. -/
def Has (W : World) (b k : Nat) (v : Value) : Prop := b < W.heap.size ∧ W.cell? ⟨b, k, none⟩ = some v
theorem Has.new {W : World} {o : Obj} {k : Nat} {v : Value} (h : ∀ W : World, (W.alloc o).cell? ⟨W.heap.size, k, none⟩ = some v) : Has (W.alloc o) W.heap.size k v := ⟨by simp, h W⟩
theorem Has.new2 {W : World} {o o' : Obj} {k : Nat} {v : Value} (h : ∀ W : World, (W.alloc o).cell? ⟨W.heap.size, k, none⟩ = some v) : Has ((W.alloc o').alloc o) (W.heap.size + 1) k v := by
  have := h (W.alloc o')
  have e : (W.alloc o').heap.size = W.heap.size + 1 := by simp
  rw [e] at this
  exact ⟨by simp, this⟩
theorem Has.al {W : World} {b k : Nat} {v : Value} (h : Has W b k v) (o : Obj) : Has (W.alloc o) b k v :=
  have hb := (Below.refl W.heap.size W).alloc (Nat.le_refl _) o
  ⟨Nat.lt_of_lt_of_le h.1 hb.size, (hb.cell (p := ⟨b, k, none⟩) h.1).trans h.2⟩
theorem Has.go {W W' : World} {g b k : Nat} {v : Value} (h : Has W b k v) (ha : Apart g W W') (hn : g < b) : Has W' b k v :=
  ⟨Nat.lt_of_lt_of_le h.1 ha.1.size, (ha.cell (p := ⟨b, k, none⟩) (Nat.ne_of_gt hn) h.1).trans h.2⟩
def hostO : Obj := .cells #[.string ⟨#[64, 104, 111, 115, 116]⟩, .string ⟨#[64, 115, 116, 114, 101, 97, 109]⟩, .string ⟨#[64, 116, 114, 97, 99, 101]⟩, .string ⟨#[64, 119, 101, 105, 103, 104, 116]⟩] 9
theorem host_at (k : Nat) (hk : k < 4) : ∃ x : List UInt8, (∀ W : World, (W.alloc hostO).cell? ⟨W.heap.size, k, none⟩ = some (.string ⟨x.toArray⟩)) ∧ (∀ h : k < ([Value.string ⟨#[64, 104, 111, 115, 116]⟩, .string ⟨#[64, 115, 116, 114, 101, 97, 109]⟩, .string ⟨#[64, 116, 114, 97, 99, 101]⟩, .string ⟨#[64, 119, 101, 105, 103, 104, 116]⟩] : List Value).length, ([Value.string ⟨#[64, 104, 111, 115, 116]⟩, .string ⟨#[64, 115, 116, 114, 101, 97, 109]⟩, .string ⟨#[64, 116, 114, 97, 99, 101]⟩, .string ⟨#[64, 119, 101, 105, 103, 104, 116]⟩] : List Value)[k]'h = .string ⟨x.toArray⟩) := by
  match k, hk with
  | 0, _ => exact ⟨[64, 104, 111, 115, 116], fun W => by simp [go_sem, hostO], fun _ => rfl⟩
  | 1, _ => exact ⟨[64, 115, 116, 114, 101, 97, 109], fun W => by simp [go_sem, hostO], fun _ => rfl⟩
  | 2, _ => exact ⟨[64, 116, 114, 97, 99, 101], fun W => by simp [go_sem, hostO], fun _ => rfl⟩
  | 3, _ => exact ⟨[64, 119, 101, 105, 103, 104, 116], fun W => by simp [go_sem, hostO], fun _ => rfl⟩
def fourO : Obj := .cells #[.string ⟨#[49]⟩, .string ⟨#[109, 97, 105, 110]⟩, .string ⟨#[116, 49]⟩, .string ⟨#[50]⟩] 9
theorem four_at (k : Nat) (hk : k < 4) : ∃ x : List UInt8, (∀ W : World, (W.alloc fourO).cell? ⟨W.heap.size, k, none⟩ = some (.string ⟨x.toArray⟩)) ∧ (∀ h : k < ([Value.string ⟨#[49]⟩, .string ⟨#[109, 97, 105, 110]⟩, .string ⟨#[116, 49]⟩, .string ⟨#[50]⟩] : List Value).length, ([Value.string ⟨#[49]⟩, .string ⟨#[109, 97, 105, 110]⟩, .string ⟨#[116, 49]⟩, .string ⟨#[50]⟩] : List Value)[k]'h = .string ⟨x.toArray⟩) := by
  match k, hk with
  | 0, _ => exact ⟨[49], fun W => by simp [go_sem, fourO], fun _ => rfl⟩
  | 1, _ => exact ⟨[109, 97, 105, 110], fun W => by simp [go_sem, fourO], fun _ => rfl⟩
  | 2, _ => exact ⟨[116, 49], fun W => by simp [go_sem, fourO], fun _ => rfl⟩
  | 3, _ => exact ⟨[50], fun W => by simp [go_sem, fourO], fun _ => rfl⟩
def farO : Obj := .cells #[.int .i64 (-5), .int .i64 253402300799999, .int .i64 999999999999999999] 3
theorem far_at (k : Nat) (hk : k < 3) : ∃ x : Int, (∀ W : World, (W.alloc farO).cell? ⟨W.heap.size, k, none⟩ = some (.int .i64 x)) ∧ (∀ h : k < ([Value.int .i64 (-5), .int .i64 253402300799999, .int .i64 999999999999999999] : List Value).length, ([Value.int .i64 (-5), .int .i64 253402300799999, .int .i64 999999999999999999] : List Value)[k]'h = .int .i64 x) := by
  match k, hk with
  | 0, _ => exact ⟨-5, fun W => by simp [go_sem, farO], fun _ => rfl⟩
  | 1, _ => exact ⟨253402300799999, fun W => by simp [go_sem, farO], fun _ => rfl⟩
  | 2, _ => exact ⟨999999999999999999, fun W => by simp [go_sem, farO], fun _ => rfl⟩
theorem leaf_two {b : Nat} {op num : Int} {nm tx : List UInt8} {W : World} (h : BK b 5 (leafE op nm tx num) W) (nm' : List UInt8) (num' : Int) :
    BK b 5 (leafE op nm' tx num') ((W.setCell ⟨b, 1, none⟩ (.string ⟨nm'.toArray⟩)).setCell ⟨b, 3, none⟩ (.int .i64 num')) :=
  ((h.set 1 (by omega) _).set 3 (by omega) _).cong fun i hi => by
    match i, hi with
    | 0, _ => rfl
    | 1, _ => rfl
    | 2, _ => rfl
    | 3, _ => rfl
    | 4, _ => rfl
theorem TS.set {g : Nat} {w W : World} (h : TS g w W) {b : Nat} (hb : w.heap.size < b) (i : Nat) (v : Value) : TS g w (W.setCell ⟨b, i, none⟩ v) := ⟨h.gd.set (Nat.le_of_lt hb) i v, h.bk.other (Nat.ne_of_lt hb) i v⟩
theorem infoT : (Try.prog.info? 24).map (fun i => (i.zero, i.size, i.bytes)) = some (some (.agg #[.int .i64 0, .string ⟨#[]⟩, .string ⟨#[]⟩, .int .i64 0, .slice none 0 0]), 5, 72) := by kernel_rfl
theorem test_one (op : Int) (nm tx : List UInt8) (num : Int) (a : Option Addr) (n c : Nat) : ∀ u ∈ [Value.int .i64 op, .string ⟨nm.toArray⟩, .string ⟨tx.toArray⟩, .int .i64 num, .slice a n c], u.oneCell' = true := by
  intro u hu
  simp only [List.mem_cons, List.not_mem_nil, or_false] at hu
  rcases hu with rfl | rfl | rfl | rfl | rfl <;> rfl
theorem kids_push {g : Nat} {w w4 w5 : World} {b : Nat} {E : Nat → Value} {kids : List QT} {v : Value} {o : Obj} {g' cap H : Nat} (hS : TS g w w4) (hb : w.heap.size < b) (hK : KL TR (fun k => w.heap.size < k ∧ k ≠ b) b 5 E 4 (b + 1) 24 5 kids v w4) (cs : List Value)
    (hown : w4.ownsRow (b + 1) 24 5 v kids.length cs)
    (hpush : ∀ (R' : QT → List Value → Prop) (W' : World) (x : QT) (us : List Value) (v' : Value), (∀ x us, TR (FF (fun k => w.heap.size < k ∧ k ≠ b) v) w4 x us → R' x us) → us.length = 5 → R' x us → kids.length + 1 ≤ 1000000 → W'.ownsRow (b + 1) 24 5 v' (kids.length + 1) (cs ++ us) → OR (b + 1) 24 5 R' W' (kids ++ [x]) v')
    (hgr : (w4.alloc o).grownBy w5 v.ownBlock) (hat : v.ownBlock = some g' ∨ g' = H) {t : QT} (us : List Value) (hH : H = (w4.alloc o).heap.size) (hu : us.length = 5) (hx : TR (FF (fun k => w.heap.size < k ∧ k ≠ b) v) w4 t us) (hl : kids.length + 1 ≤ 1000000)
    (ho : w5.ownsRow (b + 1) 24 5 (.slice (some ⟨g', 0, none⟩) (kids.length + 1) cap) (kids.length + 1) (cs ++ us)) :
    (TS g w (w5.setCell ⟨b, 4, none⟩ (.slice (some ⟨g', 0, none⟩) (kids.length + 1) cap)) ∧ KL TR (fun k => w.heap.size < k ∧ k ≠ b) b 5 E 4 (b + 1) 24 5 (kids ++ [t]) (.slice (some ⟨g', 0, none⟩) (kids.length + 1) cap) (w5.setCell ⟨b, 4, none⟩ (.slice (some ⟨g', 0, none⟩) (kids.length + 1) cap))) ∧
      w5.cell? ⟨b, 4, none⟩ = some v ∧ w5.frozen? ⟨b, 4, none⟩ = false := by
  have hB := push_below hgr hown hK.BW
  refine ⟨⟨⟨(hS.gd.on (hB.mono (by omega))).set (Nat.le_of_lt hb) _ _, (hS.bk.on hB (by omega)).other (Nat.ne_of_lt hb) _ _⟩, hK.push (by decide) (fun h => h.2 rfl) hgr (hat.imp id (fun e => by rw [e, hH]; simp)) cs hown hpush (fun _ _ _ _ h => TR.go h) t us hu hx hl ho⟩, ?_, ?_⟩
  · exact (hB.cell (p := ⟨b, 4, none⟩) (Nat.lt_succ_self _)).trans (hK.cell (by decide))
  · exact (hB.frozen (p := ⟨b, 4, none⟩) (Nat.lt_succ_self _)).trans (hK.bk.fz 4)
theorem ff_new {α : Type} {RR : (Nat → Prop) → World → α → List Value → Prop} {w0 b m c B k : Nat} {e : TypeId} {E : Nat → Value} {xs : List α} {v : Value} {W W' : World} {t : QT} {x : Value} (h : KL RR (fun k => w0 < k ∧ k ≠ b) b m E c B e k xs v W) (hb : w0 < b)
    (hT : TG (fun k => W.heap.size ≤ k) W' t x) : TG (FF (fun k => w0 < k ∧ k ≠ b) v) W' t x :=
  TG.go ⟨Nat.le_refl _, fun k hk _ => ⟨⟨⟨by have := h.bk.lt; omega, by have := h.bk.lt; omega⟩, fun e => by
    obtain ⟨cs, hown, _⟩ := h.row.cells
    have := (hown.lt k e).2
    omega⟩, rfl⟩⟩ _ _ hT

end Go.Proofs.Ytmcnhphmglmmeaa

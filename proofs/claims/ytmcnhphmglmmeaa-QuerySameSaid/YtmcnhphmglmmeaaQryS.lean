/-
  The list of choices changes one thing of a test.
-/
import Derived.Test.YtmcnhphmglmmeaaQryU
namespace Go.Proofs.Ytmcnhphmglmmeaa
open Go.RowKit

def WP (F0 : Nat → Prop) (g : Nat) (w : World) (e : Ending) (w' : World) : Prop := ∃ v t, e = .returned v ∧ TG (fun k => F0 k ∨ w.heap.size ≤ k) w' t v ∧ GD g w w'
/-- Old blocks among F0, or blocks behind the two of the call's own. -/
def FA (F0 : Nat → Prop) (w : World) (k : Nat) : Prop := (F0 k ∧ k < w.heap.size) ∨ w.heap.size + 2 ≤ k
def aE (op : Int) (nm tx : List UInt8) (num : Int) (a : Option Addr) (n c : Nat) : Nat → Value := fun i => (#[.int .i64 op, .string ⟨nm.toArray⟩, .string ⟨tx.toArray⟩, .int .i64 num, .slice a n c] : Array Value)[i]!
structure WS (g : Nat) (w : World) (E : Nat → Value) (W : World) : Prop where
  gd : GD g w W
  bk : BK w.heap.size 5 E W
  rb : BK (w.heap.size + 1) 5 (leafE 0 [] [] 0) W
theorem WS.gp {g : Nat} {w W W' : World} {E : Nat → Value} (h : WS g w E W) (hd : GD g w W') (ha : Apart g W W') : WS g w E W' := ⟨hd, h.bk.go ha (Nat.ne_of_gt h.gd.hg), h.rb.go ha (by have := h.gd.hg; omega)⟩
theorem WS.go {g : Nat} {w W W' : World} {E : Nat → Value} (h : WS g w E W) (ha : Apart g W W') (hc : CodesAt W' g) : WS g w E W' := h.gp (h.gd.go ha hc) ha
theorem WS.on {g : Nat} {w W W' : World} {E : Nat → Value} (h : WS g w E W) (hb : Below (w.heap.size + 2) W W') : WS g w E W' := ⟨h.gd.on (hb.mono (by omega)), h.bk.on hb (by omega), h.rb.on hb (by omega)⟩
theorem WS.al {g : Nat} {w W : World} {E : Nat → Value} (h : WS g w E W) (o : Obj) : WS g w E (W.alloc o) := ⟨h.gd.al o, h.bk.al o, h.rb.al o⟩
theorem WS.sz {g : Nat} {w W : World} {E : Nat → Value} (h : WS g w E W) : w.heap.size + 2 ≤ W.heap.size := h.rb.lt
theorem WS.start {g : Nat} {w : World} (hc : CodesAt w g) (op : Int) (nm tx : List UInt8) (num : Int) (a : Option Addr) (n c : Nat) :
    WS g w (aE op nm tx num a n c) ((w.alloc (.cells #[.int .i64 op, .string ⟨nm.toArray⟩, .string ⟨tx.toArray⟩, .int .i64 num, .slice a n c] 24)).alloc (.cells #[.int .i64 0, .string ⟨#[]⟩, .string ⟨#[]⟩, .int .i64 0, .slice none 0 0] 24)) := by
  refine ⟨((GD.start hc).al _).al _, (BK.new w _ _ _ 5 (fun i hi => ?_)).al _, ?_⟩
  · match i, hi with
    | 0, _ => rfl
    | 1, _ => rfl
    | 2, _ => rfl
    | 3, _ => rfl
    | 4, _ => rfl
  · have := BK.new (w.alloc (.cells #[.int .i64 op, .string ⟨nm.toArray⟩, .string ⟨tx.toArray⟩, .int .i64 num, .slice a n c] 24)) #[.int .i64 0, .string ⟨#[]⟩, .string ⟨#[]⟩, .int .i64 0, .slice none 0 0] 24 (leafE 0 [] [] 0) 5 (fun i hi => by
      match i, hi with
      | 0, _ => rfl
      | 1, _ => rfl
      | 2, _ => rfl
      | 3, _ => rfl
      | 4, _ => rfl)
    simpa using this
theorem WS.ten {g : Nat} {w W : World} {op : Int} {nm tx : List UInt8} {num : Int} {a : Option Addr} {n c : Nat} (h : WS g w (aE op nm tx num a n c) W) :
    W.cell? ⟨w.heap.size, 0, none⟩ = some (.int .i64 op) ∧ W.cell? ⟨w.heap.size, 1, none⟩ = some (.string ⟨nm.toArray⟩) ∧ W.cell? ⟨w.heap.size, 2, none⟩ = some (.string ⟨tx.toArray⟩) ∧ W.cell? ⟨w.heap.size, 3, none⟩ = some (.int .i64 num) ∧ W.cell? ⟨w.heap.size, 4, none⟩ = some (.slice a n c) ∧
    W.frozen? ⟨w.heap.size, 0, none⟩ = false ∧ W.frozen? ⟨w.heap.size, 1, none⟩ = false ∧ W.frozen? ⟨w.heap.size, 2, none⟩ = false ∧ W.frozen? ⟨w.heap.size, 3, none⟩ = false ∧ W.frozen? ⟨w.heap.size, 4, none⟩ = false :=
  ⟨h.bk.ev 0 (by omega), h.bk.ev 1 (by omega), h.bk.ev 2 (by omega), h.bk.ev 3 (by omega), h.bk.ev 4 (by omega), h.bk.fz 0, h.bk.fz 1, h.bk.fz 2, h.bk.fz 3, h.bk.fz 4⟩
/-- What came in still lies there. -/
theorem GD.stay {g : Nat} {w W : World} {F0 : Nat → Prop} (h : GD g w W) (h0 : ∀ k, F0 k → k ≠ g) : Stay F0 (FA F0 w) w W :=
  ⟨h.le, fun k hk hl => ⟨.inl ⟨hk, hl⟩, h.ap.block (h0 k hk) hl⟩⟩
theorem GD.stay0 {g : Nat} {w W : World} {F0 : Nat → Prop} (h : GD g w W) (h0 : ∀ k, F0 k → k ≠ g) : Stay F0 (fun k => F0 k ∧ k < w.heap.size) w W := ⟨h.le, fun k hk hl => ⟨⟨hk, hl⟩, h.ap.block (h0 k hk) hl⟩⟩
theorem stay_fa {w W W' : World} {F0 : Nat → Prop} (h : Below (w.heap.size + 2) W W') : Stay (fun k => F0 k ∧ k < w.heap.size) (fun k => F0 k ∧ k < w.heap.size) W W' := ⟨h.size, fun k hk _ => ⟨hk, h.block k (by omega)⟩⟩
theorem wrong_ret {w W : World} {g : Nat} {F0 : Nat → Prop} {E : Nat → Value} (hG : GD g w W) (hB : BK (w.heap.size + 1) 5 E W) (tmps : Array Value) (df : _) (hdf : df = []) (hp : tmps.getD 4 undef = .pointer (some ⟨w.heap.size + 1, 0, none⟩)) {v0 v1 v2 v3 v4 : Value} {t : QT} (hT : TG (FA F0 w) W t (.agg #[v0, v1, v2, v3, v4])) :
    bodyPost Try.prog Try.f18 (WP F0 g w) Exit.ret { tmps := tmps, defers := df } (setL W (w.heap.size + 1) [v0, v1, v2, v3, v4] 0) := by
  have hb := setL_below (B := w.heap.size) (b := w.heap.size + 1) (by omega) [v0, v1, v2, v3, v4] W 0
  have hc := setL_at (b := w.heap.size + 1) [v0, v1, v2, v3, v4] W 0 (fun j _ hj => ⟨_, hB.ev j (by simpa using hj)⟩)
  refine bodyPost_ret (results_item (ty := 24) rfl tmps _ (w.heap.size + 1) [v0, v1, v2, v3, v4] _ hp (fun j v hv => by have := hc j v hv; rwa [Nat.zero_add] at this) Try.underlying24 rfl (by kernel_rfl)) hdf ⟨_, t, rfl, TG.go ⟨hb.size, fun k hk _ => ⟨hk.imp And.left (fun h => by omega), setL_heap _ (by rcases hk with h | h <;> omega) _ _⟩⟩ _ _ hT, hG.on hb⟩
theorem tr_one {F : Nat → Prop} {w : World} (t : QT) (us : List Value) (h : TR F w t us) : ∀ u ∈ us, u.oneCell' = true := by
  obtain ⟨op, nm, tx, num, kids, a, c, e, _⟩ := TG.open h
  injection e with e
  have := congrArg Array.toList e
  simp only at this
  subst this
  exact test_one _ _ _ _ _ _ _
/-- The empty test. -/
def ZR (t : QT) (us : List Value) : Prop := t = .node 0 [] [] 0 [] ∧ us = [.int .i64 0, .string ⟨#[]⟩, .string ⟨#[]⟩, .int .i64 0, .slice none 0 0]
theorem ZR.tr {F : Nat → Prop} {w : World} {t : QT} {us : List Value} (h : ZR t us) : TR F w t us := by
  obtain ⟨rfl, rfl⟩ := h
  exact TG.leaf F w 0 [] [] 0
theorem w_set {g : Nat} {w W : World} {E : Nat → Value} (h : WS g w E W) (i : Nat) (v : Value) : GD g w (W.setCell ⟨w.heap.size, i, none⟩ v) ∧ BK (w.heap.size + 1) 5 (leafE 0 [] [] 0) (W.setCell ⟨w.heap.size, i, none⟩ v) :=
  ⟨h.gd.set (Nat.le_refl _) i v, h.rb.other (by omega) i v⟩
theorem stay_set {g : Nat} {w W : World} {E : Nat → Value} {F0 : Nat → Prop} (_ : WS g w E W) (i : Nat) (v : Value) : Stay (fun k => w.heap.size + 2 ≤ k) (FA F0 w) W (W.setCell ⟨w.heap.size, i, none⟩ v) :=
  ⟨by simp, fun k hk _ => ⟨.inr hk, Below.heap_setCell _ _ _ k (by simp; omega)⟩⟩
theorem stay_set0 {g : Nat} {w W : World} {E : Nat → Value} {F0 : Nat → Prop} (_ : WS g w E W) (i : Nat) (v : Value) : Stay (fun k => F0 k ∧ k < w.heap.size) (FA F0 w) W (W.setCell ⟨w.heap.size, i, none⟩ v) :=
  ⟨by simp, fun k hk _ => ⟨.inl hk, Below.heap_setCell _ _ _ k (by simp; omega)⟩⟩
theorem stay_setL {g : Nat} {w W : World} {E : Nat → Value} {F0 : Nat → Prop} (_ : WS g w E W) (vs : List Value) : Stay (fun k => w.heap.size + 2 ≤ k) (FA F0 w) W (setL W w.heap.size vs 0) :=
  ⟨by rw [setL_size]; exact Nat.le_refl _, fun k hk _ => ⟨.inr hk, setL_heap _ (by omega) _ _⟩⟩
theorem stay_setL0 {g : Nat} {w W : World} {E : Nat → Value} {F0 : Nat → Prop} (_ : WS g w E W) (vs : List Value) : Stay (fun k => F0 k ∧ k < w.heap.size) (FA F0 w) W (setL W w.heap.size vs 0) :=
  ⟨by rw [setL_size]; exact Nat.le_refl _, fun k hk _ => ⟨.inl hk, setL_heap _ (by omega) _ _⟩⟩
theorem w_setL {g : Nat} {w W : World} {E : Nat → Value} (h : WS g w E W) (vs : List Value) : GD g w (setL W w.heap.size vs 0) ∧ BK (w.heap.size + 1) 5 (leafE 0 [] [] 0) (setL W w.heap.size vs 0) :=
  ⟨h.gd.on (setL_below (Nat.le_refl _) _ _ _), h.rb.keep (setL_heap _ (by omega) _ _) (by rw [setL_size]; exact Nat.le_refl _)⟩

set_option maxRecDepth 100000 in
set_option maxHeartbeats 20000000 in
theorem dwrong_any (F0 : Nat → Prop) (g : Nat) (w : World) (h0 : ∀ k, F0 k → k ≠ g) (hc : CodesAt w g) (v : Value) (t : QT) (hT : TG F0 w t v) (hkl : kidsLen v ≤ 1000) : Calls Try.prog 18 #[.pointer (some ⟨g, 0, none⟩), v] w (WP F0 g w) := by
  have HT := Lib.hid hT
  obtain ⟨op, nm, tx, num, kids, a, c, rfl, hrw⟩ := hT.open
  have HRW := Lib.hid hrw
  have HS0 := Lib.hid (WS.start hc op nm tx num a kids.length c)
  have HKS : Hid (kids.length ≤ 1000) := Lib.hid hkl
  have HKB : Hid (kids.length + 1 ≤ 1000000) := Lib.hid (by have := HKS.out; omega)
  clear hT hrw hc hkl
  go_enter Try.func18, Try.ntmps18
  go_wp2_with fail
  refine (next_any g 7 _ HS0.out.gd.codes (by omega) (by omega)).mono ?_
  rintro e w1 ⟨q, hq, rfl, hca, hap⟩
  have HS := Lib.hid (HS0.out.go hap hca)
  clear hca hap HS0
  have hne : w.heap.size + 1 ≠ w.heap.size := by omega
  rcases (show q = 0 ∨ q = 1 ∨ q = 2 ∨ q = 3 ∨ q = 4 ∨ q = 5 ∨ q = 6 by omega) with rfl | rfl | rfl | rfl | rfl | rfl | rfl
  · go_wp2_with fail
    refine (next_any g 14 _ HS.out.gd.codes (by omega) (by omega)).mono ?_
    rintro e w2 ⟨k, hk, rfl, hca, hap⟩
    have HS2 := Lib.hid (HS.out.go hap hca)
    clear hca hap
    obtain ⟨c0, c1, c2, c3, c4, d0, d1, d2, d3, d4⟩ := HS2.out.ten
    obtain ⟨k0, k1, k2, k3, k4, f0, f1, f2, f3, f4⟩ := HS2.out.rb.five
    go_wp2_with fail
    rw [nest5 (w2.setCell _ _)]
    exact wrong_ret (w_set HS2.out 0 _).1 (w_set HS2.out 0 _).2 _ _ rfl (by rfl) (TG.node (HRW.out.go (F' := FA F0 w) ((w_set HS2.out 0 _).1.stay h0) (fun x us h => TR.go ((w_set HS2.out 0 _).1.stay h0) x us h)) _ nm tx num)
  · have HN : Hid (Calls Try.prog 15 #[.pointer (some ⟨g, 0, none⟩), .int .i64 5] (w1.alloc (.cells #[.string ⟨#[]⟩, .string ⟨#[110, 111, 116]⟩, .string ⟨#[97, 32, 98]⟩, .string ⟨#[57]⟩, .string ⟨#[108, 111, 110, 103, 95, 108, 111, 110, 103, 95, 108, 111, 110, 103, 95, 108, 111, 110, 103, 95, 108, 111, 110, 103, 95, 108, 111, 110, 103, 95, 108, 111, 110, 103, 95, 108, 111, 110, 103]⟩] 9)) _) := lit_gd g w w1 [[], [110, 111, 116], [97, 32, 98], [57], [108, 111, 110, 103, 95, 108, 111, 110, 103, 95, 108, 111, 110, 103, 95, 108, 111, 110, 103, 95, 108, 111, 110, 103, 95, 108, 111, 110, 103, 95, 108, 111, 110, 103, 95, 108, 111, 110, 103]] HS.out.gd (by decide) (by decide)
    go_wp2_with fail
    refine HN.out.mono ?_
    rintro e w2 ⟨k, x, hk, rfl, hcell, hlt, hgd, hap⟩
    have hk2 : k < 5 := hk
    have i1 : (k : Int) < 5 := by omega
    have i2 : (0 : Int) ≤ (k : Int) := by omega
    have HS2 := Lib.hid (HS.out.gp hgd hap)
    clear hgd hap hk HN
    obtain ⟨c0, c1, c2, c3, c4, d0, d1, d2, d3, d4⟩ := HS2.out.ten
    obtain ⟨k0, k1, k2, k3, k4, f0, f1, f2, f3, f4⟩ := HS2.out.rb.five
    go_wp2_with fail
    rw [nest5 (w2.setCell _ _)]
    exact wrong_ret (w_set HS2.out 1 _).1 (w_set HS2.out 1 _).2 _ _ rfl (by rfl) (TG.node (HRW.out.go (F' := FA F0 w) ((w_set HS2.out 1 _).1.stay h0) (fun x us h => TR.go ((w_set HS2.out 1 _).1.stay h0) x us h)) op x tx num)
  · have HN : Hid (Calls Try.prog 15 #[.pointer (some ⟨g, 0, none⟩), .int .i64 4] (w1.alloc (.cells #[.string ⟨#[]⟩, .string ⟨#[65]⟩, .string ⟨#[120, 32, 121]⟩, .string ⟨#[0]⟩] 9)) _) := lit_gd g w w1 [[], [65], [120, 32, 121], [0]] HS.out.gd (by decide) (by decide)
    go_wp2_with fail
    refine HN.out.mono ?_
    rintro e w2 ⟨k, x, hk, rfl, hcell, hlt, hgd, hap⟩
    have hk2 : k < 4 := hk
    have i1 : (k : Int) < 4 := by omega
    have i2 : (0 : Int) ≤ (k : Int) := by omega
    have HS2 := Lib.hid (HS.out.gp hgd hap)
    clear hgd hap hk HN
    obtain ⟨c0, c1, c2, c3, c4, d0, d1, d2, d3, d4⟩ := HS2.out.ten
    obtain ⟨k0, k1, k2, k3, k4, f0, f1, f2, f3, f4⟩ := HS2.out.rb.five
    go_wp2_with fail
    rw [nest5 (w2.setCell _ _)]
    exact wrong_ret (w_set HS2.out 2 _).1 (w_set HS2.out 2 _).2 _ _ rfl (by rfl) (TG.node (HRW.out.go (F' := FA F0 w) ((w_set HS2.out 2 _).1.stay h0) (fun x us h => TR.go ((w_set HS2.out 2 _).1.stay h0) x us h)) op nm x num)
  · go_wp2_with fail
    refine (dint_any g _ HS.out.gd.codes).mono ?_
    rintro e w2 ⟨k, rfl, hg2⟩
    have HS2 := Lib.hid (HS.out.go hg2.ap hg2.codes)
    clear hg2
    obtain ⟨c0, c1, c2, c3, c4, d0, d1, d2, d3, d4⟩ := HS2.out.ten
    obtain ⟨k0, k1, k2, k3, k4, f0, f1, f2, f3, f4⟩ := HS2.out.rb.five
    go_wp2_with fail
    rw [nest5 (w2.setCell _ _)]
    exact wrong_ret (w_set HS2.out 3 _).1 (w_set HS2.out 3 _).2 _ _ rfl (by rfl) (TG.node (HRW.out.go (F' := FA F0 w) ((w_set HS2.out 3 _).1.stay h0) (fun x us h => TR.go ((w_set HS2.out 3 _).1.stay h0) x us h)) op nm tx k)
  · have HR1 := Lib.hid (HRW.out.go (F' := (fun k => F0 k ∧ k < w.heap.size)) (HS.out.gd.stay0 h0) (fun x us h => TR.go (HS.out.gd.stay0 h0) x us h))
    have c4 : w1.cell? ⟨w.heap.size, 4, none⟩ = some (.slice a kids.length c) := HS.out.bk.ev 4 (by omega)
    go_wp2_with (first
      | (at_builtin; refine wpList_append_row rfl _ _ 22 24 (.agg #[.int .i64 0, .string ⟨#[]⟩, .string ⟨#[]⟩, .int .i64 0, .slice none 0 0]) 5 72 rfl Try.underlying22 infoT rfl (by decide) (w.heap.size + 2) rfl rfl HR1.out tr_one (by omega) HS.out.sz ?_; intro v2 w2 hor2 hgr2; have HB2 := Lib.hid ((Below.refl (w.heap.size + 2) w1).grown hgr2 HS.out.sz (fun k hk => by cases hk)); have HS2 := Lib.hid (HS.out.on HB2.out); have HOR2 := Lib.hid (hor2.keep (W' := w2) (R' := TR (fun k => F0 k ∧ k < w.heap.size) w2) (fun _ _ _ => rfl) (fun x us h => TR.go (stay_fa HB2.out) x us h)); clear hor2 hgr2 c4; obtain ⟨cs, hown, hpush⟩ := HOR2.out.cells; have HPU := Lib.hid hpush; clear hpush)
      | (at_builtin; refine wpList_append_k rfl _ _ 22 24 (.agg #[.int .i64 0, .string ⟨#[]⟩, .string ⟨#[]⟩, .int .i64 0, .slice none 0 0]) 5 72 rfl Try.underlying22 infoT rfl (by decide) (w.heap.size + 2) _ kids.length cs rfl hown [.int .i64 0, .string ⟨#[]⟩, .string ⟨#[]⟩, .int .i64 0, .slice none 0 0] rfl _ rfl rfl (test_one 0 [] [] 0 none 0 0) (by have := HKS.out; omega) (by have := HKS.out; omega) HS2.out.sz ?_; intro v3 w3 hown3 hgr3; have HB3 := Lib.hid (push_below hgr3 hown HS2.out.sz); have HS3 := Lib.hid (HS2.out.on HB3.out); have HOR3 := Lib.hid (HPU.out (TR (fun k => F0 k ∧ k < w.heap.size) w3) w3 (.node 0 [] [] 0 []) _ v3 (fun x us h => TR.go (stay_fa HB3.out) x us h) rfl (TG.leaf _ _ 0 [] [] 0) HKB.out hown3); clear hown3 hgr3; obtain ⟨a3, c9, rfl, _⟩ := HOR3.out.rw (F := fun _ => True) (fun _ _ => trivial); obtain ⟨c0, c1, c2, c3, c4, d0, d1, d2, d3, d4⟩ := HS3.out.ten; obtain ⟨k0, k1, k2, k3, k4, f0, f1, f2, f3, f4⟩ := HS3.out.rb.five))
    rw [nest5 (w3.setCell _ _)]
    refine wrong_ret (w_set HS3.out 4 _).1 (w_set HS3.out 4 _).2 _ _ rfl (by rfl) (t := .node op nm tx num (kids ++ [.node 0 [] [] 0 []])) ?_
    have h := TG.node (RW.go (F := fun k => w.heap.size + 2 ≤ k) (R := TR (fun k => F0 k ∧ k < w.heap.size) w3) (stay_set HS3.out 4 (.slice a3 (kids.length + 1) c9)) (fun x us h => TR.go (stay_set0 HS3.out 4 _) x us h) (HOR3.out.rw (fun _ h => h))) op nm tx num
    simp only [List.length_append, List.length_singleton] at h
    exact h
  · go_wp2_with fail
    refine (next_any g 80 _ HS.out.gd.codes (by omega) (by omega)).mono ?_
    rintro e w2 ⟨n, hn, rfl, hca, hap⟩
    have HS2 := Lib.hid (HS.out.go hap hca)
    clear hca hap HS
    go_wp2_with fail
    go_loopw [5, 6] (fun v i wr => ∃ (j : Nat) (xs : List QT), i = .int .i64 j ∧ j + xs.length ≤ 80 ∧ WS g w (aE op nm tx num a kids.length c) wr ∧ OR (w.heap.size + 2) 24 5 ZR wr xs v) (fun _ i _ => (intOf i).toNat)
    case atStart => exact ⟨n, [], by go_num, by simp; omega, HS2.out, OR.nil⟩
    case round =>
      obtain ⟨j, xs, rfl, hjx, hS, hO⟩ := hrel
      obtain ⟨v, rfl⟩ : ∃ v, v = u5 := ⟨_, rfl⟩
      have HS := Lib.hid hS
      have HO := Lib.hid hO
      clear hS hO HS2
      obtain ⟨cs, hown, hpush⟩ := HO.out.cells
      have HPU := Lib.hid hpush
      clear hpush
      cases j with
      | zero =>
        obtain ⟨c0, c1, c2, c3, c4, d0, d1, d2, d3, d4⟩ := HS.out.ten
        go_wp2_with (at_builtin; refine wpList_append_k rfl _ _ 22 24 (.agg #[.int .i64 0, .string ⟨#[]⟩, .string ⟨#[]⟩, .int .i64 0, .slice none 0 0]) 5 72 rfl Try.underlying22 infoT rfl (by decide) (w.heap.size + 2) v xs.length cs rfl hown [.int .i64 op, .string ⟨nm.toArray⟩, .string ⟨tx.toArray⟩, .int .i64 num, .slice a kids.length c] rfl _ rfl rfl (test_one _ _ _ _ _ _ _) (by omega) (by omega) HS.out.sz ?_; intro v3 w3 hown3 hgr3; have HB3 := Lib.hid (push_below hgr3 hown HS.out.sz); have HS3 := Lib.hid (HS.out.on HB3.out); have HOR3 := Lib.hid (HPU.out (TR (fun k => F0 k ∧ k < w.heap.size) w3) w3 t _ v3 (fun x us h => h.tr) rfl (TG.go (HS3.out.gd.stay0 h0) _ _ HT.out) (by omega) hown3); clear hown3 hgr3 c0 c1 c2 c3 c4 d0 d1 d2 d3 d4; obtain ⟨a3, c9, rfl, _⟩ := HOR3.out.rw (F := fun _ => True) (fun _ _ => trivial); obtain ⟨c0, c1, c2, c3, c4, d0, d1, d2, d3, d4⟩ := HS3.out.ten; obtain ⟨k0, k1, k2, k3, k4, f0, f1, f2, f3, f4⟩ := HS3.out.rb.five)
        rw [nest5 (b := w.heap.size + 1), nest5 w3]
        refine wrong_ret (w_setL HS3.out _).1 (w_setL HS3.out _).2 _ _ rfl (by rfl) (t := .node 6 [] [] 0 (xs ++ [t])) ?_
        have h := TG.node (RW.go (F := fun k => w.heap.size + 2 ≤ k) (R := TR (fun k => F0 k ∧ k < w.heap.size) w3) (stay_setL HS3.out [.int .i64 6, .string ⟨#[]⟩, .string ⟨#[]⟩, .int .i64 0, .slice a3 (xs.length + 1) c9]) (fun x us h => TR.go (stay_setL0 HS3.out _) x us h) (HOR3.out.rw (fun _ h => h))) 6 [] [] 0
        simp only [List.length_append, List.length_singleton] at h
        exact h
      | succ j =>
        have hj0 : (0 : Int) < (j : Int) + 1 := by omega
        go_wp2_with (at_builtin; refine wpList_append_k rfl _ _ 22 24 (.agg #[.int .i64 0, .string ⟨#[]⟩, .string ⟨#[]⟩, .int .i64 0, .slice none 0 0]) 5 72 rfl Try.underlying22 infoT rfl (by decide) (w.heap.size + 2) v xs.length cs rfl hown [.int .i64 0, .string ⟨#[]⟩, .string ⟨#[]⟩, .int .i64 0, .slice none 0 0] rfl _ rfl rfl (test_one 0 [] [] 0 none 0 0) (by omega) (by omega) HS.out.sz ?_; intro v3 w3 hown3 hgr3; have HB3 := Lib.hid (push_below hgr3 hown HS.out.sz); have HS3 := Lib.hid (HS.out.on HB3.out); have HOR3 := Lib.hid (HPU.out ZR w3 (.node 0 [] [] 0 []) _ v3 (fun x us h => h) rfl ⟨rfl, rfl⟩ (by omega) hown3); clear hown3 hgr3)
        refine ⟨⟨j, xs ++ [_], by go_num, by simp; omega, HS3.out, HOR3.out⟩, by simp [intOf]⟩
  · obtain ⟨c0, c1, c2, c3, c4, d0, d1, d2, d3, d4⟩ := HS.out.ten
    obtain ⟨k0, k1, k2, k3, k4, f0, f1, f2, f3, f4⟩ := HS.out.rb.five
    go_wp2_with fail
    rw [nest5 w1]
    exact wrong_ret HS.out.gd HS.out.rb _ _ rfl (by rfl) (TG.node (HRW.out.go (F' := FA F0 w) (HS.out.gd.stay h0) (fun x us h => TR.go (HS.out.gd.stay h0) x us h)) op nm tx num)

end Go.Proofs.Ytmcnhphmglmmeaa

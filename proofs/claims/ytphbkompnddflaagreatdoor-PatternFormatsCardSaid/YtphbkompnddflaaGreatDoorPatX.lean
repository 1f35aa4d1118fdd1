/-
  The parser: its three cells, and what reads a byte.
-/
import Derived.Test.YtphbkompnddflaaGreatDoorPatV
import Derived.Test.YtphbkompnddflaaGreatDoorRowM
import Derived.BigQuiet
namespace Go.Proofs.YtphbkompnddflaaGreatDoor
open Go.RowKit

/-- A node just made by the parser: all its blocks are new. -/
def NW (t : NT) (w : World) (e : Ending) (w' : World) : Prop := ∃ v, e = .returned v ∧ NG (fun k => w.heap.size ≤ k) w' t v ∧ Below w.heap.size w w'
/-- A node's block, at the end. -/
theorem item_ret {fn : Func} {P : Tmp} (hfn : fn.results = #[.cell P 25]) {W : World} {b : Nat} {E : Nat → Value} (hS : BK b 6 E W) {tmps : Array Value} {df : _} (hdf : df = []) (hp : tmps.getD P undef = .pointer (some ⟨b, 0, none⟩)) {v0 v1 v2 v3 v4 v5 : Value} {post : Ending → World → Prop}
    (h : post (.returned (.agg #[v0, v1, v2, v3, v4, v5])) (setL W b [v0, v1, v2, v3, v4, v5] 0)) :
    bodyPost Tryz.prog fn post Exit.ret { tmps := tmps, defers := df } (setL W b [v0, v1, v2, v3, v4, v5] 0) := by
  have hc := setL_at (b := b) [v0, v1, v2, v3, v4, v5] W 0 (fun j _ hj => ⟨_, hS.ev j (by simpa using hj)⟩)
  exact bodyPost_ret (results_item (ty := 25) hfn tmps _ b [v0, v1, v2, v3, v4, v5] _ hp (fun j v hv => by have := hc j v hv; rwa [Nat.zero_add] at this) Tryz.underlying25 rfl (by kernel_rfl)) hdf h

set_option maxHeartbeats 8000000 in
set_option maxRecDepth 1000000 in
theorem class_any (f : Nat → Bool) (w : World) : Calls Tryz.prog 82 #[.agg (setA f)] w (NW (.node 1 (rngs f 0) [] [] 0 0) w) := by
  go_enter Tryz.func82, Tryz.ntmps82
  go_wp2
  refine wp_load_set _ rfl w.heap.size rfl f 94 (heap_alloc2_old w _ _) ?_
  go_wp2_with fail
  refine (ranges_any f _).mono ?_
  rintro e w2 ⟨v, rfl, hor, hb⟩
  have HB : Hid (BK (w.heap.size + 1) 6 (nE 0 none 0 0 [] none 0 0 0 0) w2) := Lib.hid ((by simpa using nE_new (w.alloc (.cells (setA f) 94)) 0 none 0 0 [] none 0 0 0 0 : BK (w.heap.size + 1) 6 (nE 0 none 0 0 [] none 0 0 0 0) _).on hb (by simp))
  have HW : Hid (Below w.heap.size w w2) := Lib.hid ((((Below.refl _ w).alloc (Nat.le_refl _) _).alloc (by simp) _).trans (hb.mono (by simp; omega)))
  have hrw := hor.rw (F := fun k => w.heap.size + 2 ≤ k) (fun b hb => by simpa using hb)
  clear hor hb
  obtain ⟨a, c, rfl, hrest⟩ := hrw
  have HR : Hid (RW (fun k => w.heap.size + 2 ≤ k) 2 RgR w2 (rngs f 0) (.slice a (rngs f 0).length c)) := Lib.hid ⟨a, c, rfl, hrest⟩
  clear hrest
  obtain ⟨k0, k1, k2, k3, k4, k5, f0, f1, f2, f3, f4, f5⟩ := bk6 HB.out
  go_wp2_with fail
  rw [nest6 w2]
  have hbl := setL_below (B := w.heap.size) (b := w.heap.size + 1) (Nat.le_succ _) [.int .i64 1, .slice a (rngs f 0).length c, .string ⟨#[]⟩, .slice none 0 0, .int .i64 0, .int .i64 0] w2 0
  refine item_ret (P := 2) rfl HB.out rfl (by rfl) ⟨_, rfl, ?_, HW.out.trans hbl⟩
  exact NG.node (kids := []) (HR.out.go ⟨hbl.size, fun k hk _ => ⟨by omega, setL_heap _ (by omega) _ _⟩⟩ (fun _ _ h => h)) RW.nil 1 [] 0 0 (by simp)
end Go.Proofs.YtphbkompnddflaaGreatDoor
namespace Go.Proofs.YtphbkompnddflaaGreatDoor
open Go.RowKit

/-- The parser lies at block b: the source l, the offset, the error. -/
def psE (l : List UInt8) (at_ e : Nat) (i : Nat) : Value := if i = 0 then .string ⟨l.toArray⟩ else if i = 1 then .int .i64 (at_ : Int) else .int .i64 (e : Int)
def PSt (b : Nat) (l : List UInt8) (at_ e : Nat) (W : World) : Prop := BK b 3 (psE l at_ e) W
/-- The next byte. -/
def nx (l : List UInt8) (at_ e : Nat) : Option UInt8 := if e = 0 then l[at_]? else none
/-- Nothing but the parser's own block is written. -/
structure PK (b : Nat) (l : List UInt8) (at_ e : Nat) (w w' : World) : Prop where
  ap : Apart b w w'
  st : PSt b l at_ e w'

theorem Apart.setCell {b : Nat} (w : World) (i : Nat) (v : Value) : Apart b w (w.setCell ⟨b, i, none⟩ v) := ⟨(Below.refl _ w).setCell (p := ⟨b, i, none⟩) (Nat.le_refl _) v, fun k h1 _ => Below.heap_setCell _ _ _ k (by intro e; simp only at e; omega)⟩
theorem psE_two (l : List UInt8) (at_ e x : Nat) : ∀ i, i < 3 → Upd (psE l at_ e) 2 (.int .i64 (x : Int)) i = psE l at_ x i := fun i hi => by
  match i, hi with
  | 0, _ => rfl
  | 1, _ => rfl
  | 2, _ => rfl
set_option maxHeartbeats 4000000 in
set_option maxRecDepth 1000000 in
theorem fail_any (b : Nat) (l : List UInt8) (at_ e : Nat) (x : Nat) (w : World) (h : PSt b l at_ e w) : Calls Tryz.prog 30 #[.pointer (some ⟨b, 0, none⟩), .int .i64 (x : Int)] w fun r w' => r = .returned (.tuple #[]) ∧ PK b l at_ (if e = 0 then x else e) w w' := by
  have hb := h.lt
  have c2 : w.cell? ⟨b, 2, none⟩ = some (.int .i64 (e : Int)) := h.ev 2 (by omega)
  have f2 := h.fz 2
  have H := Lib.hid h
  clear h
  go_enter Tryz.func30, Tryz.ntmps30
  by_cases he : e = 0
  · subst he
    go_wp2_with fail
    go_end0
    exact ⟨rfl, Apart.setCell w 2 _, (H.out.set 2 (by omega) _).cong (psE_two l at_ 0 x)⟩
  · have z1 : ((e : Int) == 0) = false := by rw [beq_eq_false_iff_ne]; omega
    rw [if_neg he]
    clear he
    go_wp2_with fail
    go_end0
    exact ⟨rfl, Apart.refl _ _, H.out⟩
theorem Kinds.ap {b : Nat} {w w' : World} (h : Kinds w) (hb : 0 < b) (ha : Apart b w w') : Kinds w' := ⟨Nat.lt_of_lt_of_le h.1 ha.1.size, fun c hc => (ha.cell (p := ⟨0, c, none⟩) (Nat.ne_of_lt hb) h.1).trans (h.2 c hc)⟩
theorem Kinds.on {B : Nat} {w w' : World} (h : Kinds w) (hb : 0 < B) (k : Below B w w') : Kinds w' := ⟨Nat.lt_of_lt_of_le h.1 k.size, fun c hc => (k.cell (p := ⟨0, c, none⟩) hb).trans (h.2 c hc)⟩
/-- The parser stands at at_, without an error. -/
structure PS (b : Nat) (l : List UInt8) (at_ : Nat) (w : World) : Prop where
  st : PSt b l at_ 0 w
  le : at_ ≤ l.length
  len : l.length ≤ 1000
  kd : Kinds w
  kb : 0 < b
/-- Nothing but the parser's own block is written, and it stands at at_. -/
structure PQ (b : Nat) (l : List UInt8) (at_ : Nat) (w w' : World) : Prop where
  ap : Apart b w w'
  ps : PS b l at_ w'
theorem PS.drewN {b : Nat} {l : List UInt8} {at_ : Nat} {w : World} (h : PS b l at_ w) (n : Nat) : PQ b l at_ w (w.drewN n) := ⟨⟨⟨rfl, rfl, rfl, Nat.le_refl _, fun _ _ => rfl⟩, fun _ _ _ => rfl⟩, ⟨h.st.keep rfl (Nat.le_refl _), h.le, h.len, ⟨h.kd.1, h.kd.2⟩, h.kb⟩⟩
theorem PQ.refl {b : Nat} {l : List UInt8} {at_ : Nat} {w : World} (h : PS b l at_ w) : PQ b l at_ w w := ⟨Apart.refl _ _, h⟩
theorem PQ.trans {b : Nat} {l : List UInt8} {i j : Nat} {w w1 w2 : World} (h : PQ b l i w w1) (k : PQ b l j w1 w2) : PQ b l j w w2 := ⟨h.ap.trans k.ap, k.ps⟩
theorem PQ.on {b : Nat} {l : List UInt8} {i : Nat} {w w1 w2 : World} (h : PQ b l i w w1) (k : Below w1.heap.size w1 w2) : PQ b l i w w2 := ⟨h.ap.trans (Apart.of_below k h.ps.st.lt), ⟨h.ps.st.on k h.ps.st.lt, h.ps.le, h.ps.len, h.ps.kd.below k, h.ps.kb⟩⟩
theorem PS.on {b : Nat} {l : List UInt8} {i : Nat} {w w' : World} (h : PS b l i w) {B : Nat} (k : Below B w w') (hb : b < B) : PS b l i w' := ⟨h.st.on k hb, h.le, h.len, h.kd.on (Nat.lt_trans h.kb hb) k, h.kb⟩
theorem PQ.far {b : Nat} {l : List UInt8} {i : Nat} {w w1 w2 : World} (h : PQ b l i w w1) (k : Below w.heap.size w1 w2) (hb : b < w.heap.size) : PQ b l i w w2 := ⟨⟨h.ap.1.trans (k.mono (Nat.le_of_lt hb)), fun j h1 h2 => (k.block j h2).trans (h.ap.2 j h1 h2)⟩, h.ps.on k hb⟩
theorem psE_one (l : List UInt8) (at_ x : Nat) : ∀ i, i < 3 → Upd (psE l at_ 0) 1 (.int .i64 (x : Int)) i = psE l x 0 i := fun i hi => by
  match i, hi with
  | 0, _ => rfl
  | 1, _ => rfl
  | 2, _ => rfl
theorem PS.to {b : Nat} {l : List UInt8} {i : Nat} {w : World} (h : PS b l i w) (j : Nat) (hj : j ≤ l.length) : PQ b l j w (w.setCell ⟨b, 1, none⟩ (.int .i64 (j : Int))) := ⟨Apart.setCell w 1 _, ⟨(h.st.set 1 (by omega) _).cong (psE_one l i j), hj, h.len, h.kd.ap h.kb (Apart.setCell w 1 _), h.kb⟩⟩
theorem PS.c0 {b : Nat} {l : List UInt8} {i : Nat} {w : World} (h : PS b l i w) : w.cell? ⟨b, 0, none⟩ = some (.string ⟨l.toArray⟩) := h.st.ev 0 (by omega)
theorem PS.c1 {b : Nat} {l : List UInt8} {i : Nat} {w : World} (h : PS b l i w) : w.cell? ⟨b, 1, none⟩ = some (.int .i64 (i : Int)) := h.st.ev 1 (by omega)
theorem PS.c2 {b : Nat} {l : List UInt8} {i : Nat} {w : World} (h : PS b l i w) : w.cell? ⟨b, 2, none⟩ = some (.int .i64 0) := h.st.ev 2 (by omega)

set_option maxHeartbeats 4000000 in
set_option maxRecDepth 1000000 in
theorem pnext_ok (b : Nat) (l : List UInt8) (at_ : Nat) (w : World) (h : PS b l at_ w) (v : Nat) (hv : Asc.at_ l at_ = v) (hv2 : v < 256) : Calls Tryz.prog 61 #[.pointer (some ⟨b, 0, none⟩)] w fun r w' => r = .returned (.tuple #[.int .u8 (v : Int), .bool true]) ∧ PQ b l at_ w w' := by
  have hl : at_ < l.length := Asc.at_lt (by omega)
  have hb := h.st.lt
  have c0 := h.c0
  have c1 := h.c1
  have c2 := h.c2
  have H := Lib.hid h
  obtain ⟨c, ⟨_, hx⟩, hc, _⟩ := byte_at l at_ hl
  have e : c = v := by rw [← hc, ← hv, Asc.at_of hl]
  rw [e] at hx
  clear h e hc hv
  have z1 : decide ((l.length : Int) ≤ (at_ : Int)) = false := decide_eq_false (by omega)
  have y1 : decide (l.length ≤ at_) = false := decide_eq_false (by omega)
  have i1 : (at_ : Int) < (l.length : Int) := by omega
  have i2 : (0 : Int) ≤ (at_ : Int) := by omega
  go_enter Tryz.func61, Tryz.ntmps61
  go_wp2_with fail
  go_quiet (fail)
  go_wp2_with fail
  go_quiet (fail)
  go_wp2_with fail
  go_ret2
  exact ⟨rfl, (H.out.drewN _).trans ((H.out.drewN _).ps.drewN _)⟩
set_option maxHeartbeats 4000000 in
set_option maxRecDepth 1000000 in
theorem pnext_end (b : Nat) (l : List UInt8) (at_ : Nat) (w : World) (h : PS b l at_ w) (hl : l.length ≤ at_) : Calls Tryz.prog 61 #[.pointer (some ⟨b, 0, none⟩)] w fun r w' => r = .returned (.tuple #[.int .u8 0, .bool false]) ∧ PQ b l at_ w w' := by
  have hb := h.st.lt
  have c0 := h.c0
  have c1 := h.c1
  have c2 := h.c2
  have H := Lib.hid h
  clear h
  have z1 : decide ((l.length : Int) ≤ (at_ : Int)) = true := decide_eq_true (by omega)
  have y1 : decide (l.length ≤ at_) = true := decide_eq_true (by omega)
  go_enter Tryz.func61, Tryz.ntmps61
  go_wp2_with fail
  go_quiet (fail)
  go_wp2_with fail
  go_ret2
  exact ⟨rfl, H.out.drewN _⟩
end Go.Proofs.YtphbkompnddflaaGreatDoor

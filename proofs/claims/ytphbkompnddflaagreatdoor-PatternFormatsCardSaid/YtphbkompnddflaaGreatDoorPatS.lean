/-
  What spoiling a node wants: numbers, the node's box and the result's block, rows whose elements change.
-/
import Derived.Test.YtphbkompnddflaaGreatDoorPatQ
namespace Go.Proofs.YtphbkompnddflaaGreatDoor
open Go.RowKit

def IP (g : Nat) (w : World) (e : Ending) (w' : World) : Prop := ∃ n : Int, e = .returned (.int .i64 n) ∧ GD g w w'
set_option maxRecDepth 100000 in
set_option maxHeartbeats 4000000 in
theorem mint_any (g : Nat) (w : World) (hc : CodesAt w g) : Calls Tryz.prog 20 #[.pointer (some ⟨g, 0, none⟩)] w (IP g w) := by
  have HG0 := Lib.hid ((GD.start hc).al (.cells #[.int .i64 9223372036854775807, .int .i64 (-9223372036854775808), .int .i64 4294967296, .int .i64 (-1), .int .i64 (-2), .int .i64 65536, .int .i64 999, .int .i64 1000, .int .i64 253402300799999, .int .i64 253402300800000, .int .i64 0, .int .i64 41] 3))
  have hgw := hc.1
  clear hc
  go_enter Tryz.func20, Tryz.ntmps20
  go_wp2_with fail
  refine (next_any g 4 _ HG0.out.codes (by omega) (by omega)).mono ?_
  rintro e w1 ⟨q, hq, rfl, hca, hap⟩
  have HG := Lib.hid (HG0.out.go hap hca)
  have hlt : w.heap.size < w1.heap.size := Nat.lt_of_lt_of_le (by simp) hap.1.size
  have HC : Hid (∀ k, k < 12 → ∃ u : Int, w1.cell? ⟨w.heap.size, k, none⟩ = some (.int .i64 u)) := Lib.hid (fun k hk => by
    rw [hap.cell (p := ⟨w.heap.size, k, none⟩) (by show w.heap.size ≠ g; omega) (by simp)]
    match k, hk with
    | 0, _ => exact ⟨_, by simp [go_sem]; rfl⟩
    | 1, _ => exact ⟨_, by simp [go_sem]; rfl⟩
    | 2, _ => exact ⟨_, by simp [go_sem]; rfl⟩
    | 3, _ => exact ⟨_, by simp [go_sem]; rfl⟩
    | 4, _ => exact ⟨_, by simp [go_sem]; rfl⟩
    | 5, _ => exact ⟨_, by simp [go_sem]; rfl⟩
    | 6, _ => exact ⟨_, by simp [go_sem]; rfl⟩
    | 7, _ => exact ⟨_, by simp [go_sem]; rfl⟩
    | 8, _ => exact ⟨_, by simp [go_sem]; rfl⟩
    | 9, _ => exact ⟨_, by simp [go_sem]; rfl⟩
    | 10, _ => exact ⟨_, by simp [go_sem]; rfl⟩
    | 11, _ => exact ⟨_, by simp [go_sem]; rfl⟩)
  clear hca hap HG0
  by_cases q0 : q = 3
  · subst q0
    go_wp2_with fail
    refine (next_any g 12 _ HG.out.codes (by omega) (by omega)).mono ?_
    rintro e w2 ⟨k, hk, rfl, hca, hap⟩
    obtain ⟨u, hu⟩ := HC.out k hk
    have hcell := (hap.cell (p := ⟨w.heap.size, k, none⟩) (by show w.heap.size ≠ g; omega) hlt).trans hu
    have i1 : (k : Int) < 12 := by omega
    have i2 : (0 : Int) ≤ (k : Int) := by omega
    have HG2 := Lib.hid (HG.out.go hap hca)
    clear hca hap hu
    go_wp2_with fail
    go_ret
    exact ⟨u, rfl, HG2.out⟩
  · have z0 : ((q : Int) == 3) = false := by rw [beq_eq_false_iff_ne]; omega
    go_wp2_with fail
    refine (next_any g 60 w1 HG.out.codes (by omega) (by omega)).mono ?_
    rintro e w2 ⟨m, hm, rfl, hca, hap⟩
    have HG2 := Lib.hid (HG.out.go hap hca)
    clear hca hap
    go_wp2_with fail
    go_ret
    exact ⟨_, rfl, HG2.out⟩

theorem kr_one {F : Nat → Prop} {w : World} (t : NT) (us : List Value) (h : KR F w t us) : ∀ u ∈ us, u.oneCell' = true := by
  obtain ⟨op, rs, nm, kids, mn, mx, ra, rc, a, c, _, e, _⟩ := NG.open h
  injection e with e
  have := congrArg Array.toList e
  simp only at this
  subst this
  exact node_one _ _ _ _ _ _ _ _ _ _
theorem rg_one (x : UInt8 × UInt8) (us : List Value) (h : RgR x us) : ∀ u ∈ us, u.oneCell' = true := by
  unfold RgR at h
  subst h
  intro u hu
  simp only [List.mem_cons, List.not_mem_nil, or_false] at hu
  rcases hu with rfl | rfl <;> rfl
theorem infoR : (Tryz.prog.info? 56).map (fun i => (i.zero, i.size, i.bytes)) = some (some (.agg #[.int .u8 0, .int .u8 0]), 2, 2) := by kernel_rfl
def SQ (F0 : Nat → Prop) (N g : Nat) (w : World) (e : Ending) (w' : World) : Prop := ∃ v t, e = .returned v ∧ NG (fun k => F0 k ∨ w.heap.size ≤ k) w' t v ∧ GD g w w' ∧ Sm (N + 1) t
/-- Old blocks among F0, or blocks behind the two of the call's own. -/
def FA (F0 : Nat → Prop) (w : World) (k : Nat) : Prop := (F0 k ∧ k < w.heap.size) ∨ w.heap.size + 2 ≤ k
/-- Old blocks alone. -/
def FO (F0 : Nat → Prop) (w : World) (k : Nat) : Prop := F0 k ∧ k < w.heap.size
structure SN (g : Nat) (w : World) (E : Nat → Value) (W : World) : Prop where
  gd : GD g w W
  bk : BK w.heap.size 6 E W
  rb : BK (w.heap.size + 1) 6 (nE 0 none 0 0 [] none 0 0 0 0) W
section
variable {g : Nat} {w W W' : World} {E : Nat → Value}
theorem SN.go (h : SN g w E W) (ha : Apart g W W') (hc : CodesAt W' g) : SN g w E W' := ⟨h.gd.go ha hc, h.bk.go ha (Nat.ne_of_gt h.gd.hg), h.rb.go ha (by have := h.gd.hg; omega)⟩
theorem SN.on (h : SN g w E W) (hb : Below (w.heap.size + 2) W W') : SN g w E W' := ⟨h.gd.on (hb.mono (by omega)), h.bk.on hb (by omega), h.rb.on hb (by omega)⟩
theorem SN.al (h : SN g w E W) (o : Obj) : SN g w E (W.alloc o) := ⟨h.gd.al o, h.bk.al o, h.rb.al o⟩
theorem SN.dr (h : SN g w E W) : SN g w E W.drew := ⟨h.gd.dr, h.bk.dr, h.rb.dr⟩
theorem SN.sz (h : SN g w E W) : w.heap.size + 2 ≤ W.heap.size := h.rb.lt
theorem SN.set (h : SN g w E W) (i : Nat) (hi : i < 6) (v : Value) {E' : Nat → Value} (he : ∀ j, j < 6 → Upd E i v j = E' j) : SN g w E' (W.setCell ⟨w.heap.size, i, none⟩ v) :=
  ⟨h.gd.set (Nat.le_refl _) i v, (h.bk.set i hi v).cong he, h.rb.other (by omega) i v⟩
theorem SN.far (h : SN g w E W) {b : Nat} (hb : w.heap.size + 2 ≤ b) (i : Nat) (v : Value) : SN g w E (W.setCell ⟨b, i, none⟩ v) := ⟨h.gd.set (by omega) i v, h.bk.other (by omega) i v, h.rb.other (by omega) i v⟩
theorem SN.setL (h : SN g w E W) (vs : List Value) (op : Int) (ra : Option Addr) (rn rc : Nat) (nm : List UInt8) (a : Option Addr) (n cp : Nat) (mn mx : Int) (hv : vs = [.int .i64 op, .slice ra rn rc, .string ⟨nm.toArray⟩, .slice a n cp, .int .i64 mn, .int .i64 mx]) : SN g w (nE op ra rn rc nm a n cp mn mx) (setL W w.heap.size vs 0) := by
  subst hv
  exact ⟨h.gd.on (setL_below (Nat.le_refl _) _ _ _), bk_set6 h.bk op ra rn rc nm a n cp mn mx, h.rb.keep (setL_heap _ (by omega) _ _) (by rw [setL_size]; exact Nat.le_refl _)⟩
end
theorem below6 {p : Nat → Prop} (h0 : p 0) (h1 : p 1) (h2 : p 2) (h3 : p 3) (h4 : p 4) (h5 : p 5) : ∀ i, i < 6 → p i := fun i hi => by
  match i, hi with
  | 0, _ => exact h0
  | 1, _ => exact h1
  | 2, _ => exact h2
  | 3, _ => exact h3
  | 4, _ => exact h4
  | 5, _ => exact h5
theorem SN.start {g : Nat} {w : World} (hc : CodesAt w g) (op : Int) (ra : Option Addr) (rn rc : Nat) (nm : List UInt8) (a : Option Addr) (n cp : Nat) (mn mx : Int) :
    SN g w (nE op ra rn rc nm a n cp mn mx) ((w.alloc (.cells #[.int .i64 op, .slice ra rn rc, .string ⟨nm.toArray⟩, .slice a n cp, .int .i64 mn, .int .i64 mx] 25)).alloc (.cells #[.int .i64 0, .slice none 0 0, .string ⟨#[]⟩, .slice none 0 0, .int .i64 0, .int .i64 0] 25)) := by
  refine ⟨((GD.start hc).al _).al _, (nE_new w op ra rn rc nm a n cp mn mx).al _, ?_⟩
  have := nE_new (w.alloc (.cells #[.int .i64 op, .slice ra rn rc, .string ⟨nm.toArray⟩, .slice a n cp, .int .i64 mn, .int .i64 mx] 25)) 0 none 0 0 [] none 0 0 0 0
  simpa using this
/-- What came in still lies there. -/
theorem GD.old {g : Nat} {w W : World} {F0 : Nat → Prop} (h : GD g w W) (h0 : ∀ k, F0 k → k ≠ g) : Stay F0 (FO F0 w) w W := ⟨h.le, fun k hk hl => ⟨⟨hk, hl⟩, h.ap.block (h0 k hk) hl⟩⟩
theorem spoil_ret {fn : Func} {P : Tmp} (hfn : fn.results = #[.cell P 25]) {w W : World} {g N : Nat} {F0 : Nat → Prop} {E : Nat → Value} (hS : SN g w E W) (tmps : Array Value) (df : _) (hdf : df = []) (hp : tmps.getD P undef = .pointer (some ⟨w.heap.size + 1, 0, none⟩)) {v0 v1 v2 v3 v4 v5 : Value} {t : NT}
    (hT : NG (FA F0 w) W t (.agg #[v0, v1, v2, v3, v4, v5])) (hs : Sm (N + 1) t) :
    bodyPost Tryz.prog fn (SQ F0 N g w) Exit.ret { tmps := tmps, defers := df } (setL W (w.heap.size + 1) [v0, v1, v2, v3, v4, v5] 0) := by
  have hb := setL_below (B := w.heap.size) (b := w.heap.size + 1) (by omega) [v0, v1, v2, v3, v4, v5] W 0
  have hc := setL_at (b := w.heap.size + 1) [v0, v1, v2, v3, v4, v5] W 0 (fun j _ hj => ⟨_, hS.rb.ev j (by simpa using hj)⟩)
  refine bodyPost_ret (results_item (ty := 25) hfn tmps _ (w.heap.size + 1) [v0, v1, v2, v3, v4, v5] _ hp (fun j v hv => by have := hc j v hv; rwa [Nat.zero_add] at this) Tryz.underlying25 rfl (by kernel_rfl)) hdf ⟨_, t, rfl, NG.go ⟨hb.size, fun k hk _ => ⟨hk.imp And.left (fun h => by omega), setL_heap _ (by rcases hk with h | h <;> omega) _ _⟩⟩ _ _ hT, hS.gd.on hb, hs⟩
/-- A row one of whose elements is stored anew. -/
theorem RW.setAt {F F1 F' : Nat → Prop} {W : World} {kids : List NT} {q c : Nat} (h : RW F 6 (KR F1 W) W kids (.slice (some ⟨q, 0, none⟩) kids.length c)) (i : Nat) (hi : i < kids.length) (t : NT) (us : List Value) (hu : us.length = 6) (hq : F' q)
    (hnq : ∀ j (hj : j < kids.length) (us' : List Value), KR F1 W kids[j] us' → KR F' (setL W q us (i * 6)) kids[j] us') (hT : KR F' (setL W q us (i * 6)) t us) : RW F' 6 (KR F' (setL W q us (i * 6))) (setL W q us (i * 6)) (kids.set i t) (.slice (some ⟨q, 0, none⟩) kids.length c) := by
  obtain ⟨a', c', e, hm, hk⟩ := h
  injection e with e1 e2 e3
  subst e1 e3
  refine ⟨some ⟨q, 0, none⟩, c, by rw [List.length_set], ⟨by rw [List.length_set]; exact hm.1, fun e => by cases e⟩, fun h0 => ?_⟩
  obtain ⟨blk, off, e1, hl, _, hc⟩ := hk (by omega)
  simp only [Option.some.injEq, Addr.mk.injEq, and_true] at e1
  obtain ⟨rfl, rfl⟩ := e1
  refine ⟨q, 0, rfl, by rw [setL_size]; exact hl, hq, fun j hj => ?_⟩
  have hj' : j < kids.length := by simpa using hj
  obtain ⟨us', hu', hcell, hr⟩ := hc j hj'
  by_cases e : j = i
  · subst e
    refine ⟨us, hu, fun m hm => ?_, by simpa using hT⟩
    have := setL_at (b := q) us W (j * 6) (fun p h1 h2 => by
      have h3 := hcell (p - j * 6) (by omega)
      rw [Nat.zero_add, show j * 6 + (p - j * 6) = p by omega] at h3
      rw [h3, List.getElem?_eq_getElem (by omega)]
      exact ⟨_, rfl⟩) m (us[m]'(by omega)) (List.getElem?_eq_getElem _)
    rw [Nat.zero_add, this, List.getElem?_eq_getElem]
  · refine ⟨us', hu', fun m hm => ?_, by rw [List.getElem_set_ne (by omega)]; exact hnq j hj' us' hr⟩
    rw [Nat.zero_add]
    have h3 := hcell m hm
    rw [Nat.zero_add] at h3
    rcases Nat.lt_or_ge j i with h | h
    · have : (j + 1) * 6 ≤ i * 6 := Nat.mul_le_mul_right _ h
      rw [setL_other us W (i * 6) (j * 6 + m) (by omega)]
      exact h3
    · have : (i + 1) * 6 ≤ j * 6 := Nat.mul_le_mul_right _ (by omega)
      rw [setL_past us W (i * 6) (j * 6 + m) (by omega)]
      exact h3

end Go.Proofs.YtphbkompnddflaaGreatDoor

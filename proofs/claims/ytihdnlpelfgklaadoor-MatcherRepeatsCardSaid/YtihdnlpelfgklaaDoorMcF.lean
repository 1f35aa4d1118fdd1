/-
 Joined: MtM, MtN, MtO, MtQ, MtR, Shelf, MtS, MtT, MtU.
-/
import Derived.Test.YtihdnlpelfgklaaDoorMcE
import Derived.BigRegion
import Derived.Lib.SliceRun
import Derived.Deep.OwnRows
import Derived.Deep.Heap
import Derived.Test.YtihdnlpelfgklaaDoorMcA
import Derived.Deep.RegionLaw
import Derived.Shelf.Small.Strs
import Derived.Shelf.Small.Wraps
import Derived.Shelf.Strings.Search1
import Derived.Shelf.Strings.Prefix
import Derived.Shelf.Slices.Turned
import Derived.Ground.Names2Prog
import Derived.Shelf.Slices.SearchI
import Derived.Test.YtihdnlpelfgklaaDoorProg
import Derived.OwnWalk
import Derived.StillTailTactics
namespace Go.Proofs.YtihdnlpelfgklaaDoor
open Go.RowKit
theorem wr64 {a : Int} (h : 0 ≤ a ∧ a ≤ 1000000000) : wrap64 a = a := by
 unfold wrap64
 omega
theorem words_i {M : Nat} (h : M ≤ 200010000) : wrap64 (wrap64 ((wrap64 (M : Int)).tdiv 64) + 1) = ((M / 64 + 1 : Nat) : Int) := by
 have h1 : 0 ≤ (M : Int) ∧ (M : Int) ≤ 1000000000 := by omega
 rw [wr64 h1, Int.tdiv_eq_ediv_of_nonneg h1.1]
 have h2 : 0 ≤ (M : Int) / 64 ∧ (M : Int) / 64 ≤ 1000000 * 1000 := by omega
 rw [wr64 h2, wr64 (by omega)]
 omega
theorem Kp.drewN {F : Nat → Prop} {w w' : World} (h : Kp F w w') (q : Nat) : Kp F w (w'.drewN q) := ⟨h.os, h.tape, h.output, h.size, h.block⟩
theorem Kp.set {F : Nat → Prop} {w w' : World} (h : Kp F w w') (b o : Nat) (v : Value) (hb : b < w.heap.size → ¬ F b) : Kp F w (w'.setCell ⟨b, o, none⟩ v) :=
 ⟨h.os, h.tape, h.output, by rw [Deep.nblk_setCell]; exact h.size, fun k hk hl => (Deep.blk_setCell_other w' _ v k (fun e => hb (by have : k = b := e; omega) (by have : k = b := e; rw [← this]; exact hk))).trans (h.block k hk hl)⟩
structure OrF (C : List Mt.Ins) (s : List UInt8) (L : Nat) (F : Nat → Prop) (fa b D P n V Q e : Nat) (W : World) : Prop where
 row : W.cell? ⟨fa, e, none⟩ = some (.slice (some ⟨b, 0, none⟩) n n)
 lt : D < n ∧ n ≤ 10000000
 cell : W.cell? ⟨b, D, none⟩ = some (.int .u64 (V : Int))
 soft : W.frozen? ⟨b, D, none⟩ = false
 bits : bits .or .u64 (V : Int) (P : Int) = (Q : Int)
 done : ∀ q q', FtB C s L F fa (((W.drewN q).setCell ⟨b, D, none⟩ (.int .u64 (Q : Int))).drewN q')
 out : ¬ F b
theorem FR.orf {C : List Mt.Ins} {s : List UInt8} {L : Nat} {F : Nat → Prop} {fa : Nat} {row : Nat → Option (Nat × List Nat)} {W : World} (h : FR C s L F fa row W) {pc at_ e b : Nat} {vs : List Nat} (he : e ≤ L) (hr : row e = some (b, vs)) (hl : s.length ≤ 20000) (hC : C.length ≤ 10000) (hp : pc < C.length) (ha : at_ ≤ s.length) (hway : Mt.Way C s L pc at_ e none) :
  ∃ n V Q, OrF C s L F fa b (Mt.stI s.length pc at_ / 64) (2 ^ (Mt.stI s.length pc at_ % 64)) n V Q e W := by
 obtain ⟨g1, g2, g3, g4, g5, g6⟩ := h.words e b vs hr he
 have hw := Mt.stI_word (n := s.length) hp ha
 rw [← g2] at hw
 have hm : C.length * (s.length + 1) ≤ 200010000 := Nat.mul_le_mul hC (show s.length + 1 ≤ 20001 by omega)
 have hpl : 2 ^ (Mt.stI s.length pc at_ % 64) < 2 ^ 64 := Nat.pow_lt_pow_right (by decide) (Nat.mod_lt _ (by decide))
 have hrow := h.at he
 rw [hr] at hrow
 refine ⟨vs.length, vs[Mt.stI s.length pc at_ / 64], _, hrow, ⟨hw, by omega⟩, h.word he hr hw, ?_, u64_or_nat _ _ (g5 _ (List.getElem_mem hw)) hpl, fun q q' => ⟨_, h.or he hr ha (List.getElem?_eq_getElem hw) hway ?_ (fun k hk => ?_) ?_⟩, g3⟩
 ·unfold World.frozen?
  rw [g1]
  simp
 ·exact Deep.nblk_setCell _ _ _
 ·exact Deep.blk_setCell_other _ _ _ k hk
 ·exact set_at (w := W.drewN q) g1 _ _
set_option maxHeartbeats 4000000 in
set_option maxRecDepth 1000000 in
theorem mfail_any (C : List Mt.Ins) (s : List UInt8) (L : Nat) (F : Nat → Prop) (g fa : Nat) (ca : Option Addr) (cc : Nat) (row : Nat → Option (Nat × List Nat)) (pc at_ e : Nat) (w : World) (hs : MStr w g s) (hn : MNo w g fa L) (hc : w.cell? ⟨g, 0, none⟩ = some (.slice ca C.length cc)) (hg : F g) (hf : FR C s L F fa row w) (hl : s.length ≤ 20000) (hC : C.length ≤ 10000) (hp : pc < C.length) (ha : at_ ≤ s.length) (he : e ≤ L) (hway : Mt.Way C s L pc at_ e none) :
  Calls Tryd.prog 51 #[.pointer (some ⟨g, 0, none⟩), .int .i64 (pc : Int), .int .i64 (at_ : Int), .int .i64 (e : Int)] w fun ev w' => ev = .returned (.tuple #[]) ∧ FtB C s L F fa w' ∧ Kp F w w' := by
 have hst : ∀ W, MStr W g s → Calls Tryd.prog 64 #[.pointer (some ⟨g, 0, none⟩), .int .i64 (pc : Int), .int .i64 (at_ : Int)] W fun e w' => e = .returned (.tuple #[.int .i64 ((Mt.stI s.length pc at_ / 64 : Nat) : Int), .int .u64 ((2 ^ (Mt.stI s.length pc at_ % 64) : Nat) : Int)]) ∧ ∃ q, w' = W.drewN q := fun W h => state_any g pc at_ s W h hl (by omega) (by omega)
 have hor : ∀ row W b vs, FR C s L F fa row W → row e = some (b, vs) → ∃ n V Q, OrF C s L F fa b (Mt.stI s.length pc at_ / 64) (2 ^ (Mt.stI s.length pc at_ % 64)) n V Q e W := fun row W b vs h hr => h.orf he hr hl hC hp ha hway
 obtain ⟨D, hD⟩ : ∃ D, Mt.stI s.length pc at_ / 64 = D := ⟨_, rfl⟩
 obtain ⟨P, hP⟩ : ∃ P, 2 ^ (Mt.stI s.length pc at_ % 64) = P := ⟨_, rfl⟩
 rw [hD, hP] at hst hor
 have HST := Lib.hid hst
 have HOR := Lib.hid hor
 clear hst hor hD hP hway
 have hrow := hf.at he
 unfold MNo at hn
 cases hr : row e with
 | none =>
  rw [hr] at hrow
  unfold rowV at hrow
  simp only at hrow
  unfold MStr at hs
  have heq := Lib.run_eql_slice_nil (P := Tryd.prog) w 116 113 none 0 0 0 0 Tryd.underlying116
  have hm : C.length * (s.length + 1) ≤ 200010000 := Nat.mul_le_mul hC (show s.length + 1 ≤ 20001 by omega)
  obtain ⟨M, hM⟩ : ∃ M, C.length * (s.length + 1) = M := ⟨_, rfl⟩
  have hX : wrap64 (wrap64 ((wrap64 ((C.length : Int) * ((s.length : Int) + 1))).tdiv 64) + 1) = ((M / 64 + 1 : Nat) : Int) := by
   have e : (C.length : Int) * ((s.length : Int) + 1) = (M : Int) := by rw [← hM]; push_cast; rfl
   rw [hM] at hm
   rw [e]
   exact words_i hm
  obtain ⟨n, hn2⟩ : ∃ n, M / 64 + 1 = n := ⟨_, rfl⟩
  rw [hn2] at hX
  rw [hM] at hm
  have hn3 : n ≤ 10000000 := by omega
  obtain ⟨Wa, hWa⟩ : ∃ Wa, w.drew.alloc (.cells (madeCells #[Value.int .u64 0] n) 113) = Wa := ⟨_, rfl⟩
  have hmk : (Instr.makeSlice 116 (.int .i64 (wrap64 (wrap64 ((wrap64 ((C.length : Int) * ((s.length : Int) + 1))).tdiv 64) + 1))) (.int .i64 (wrap64 (wrap64 ((wrap64 ((C.length : Int) * ((s.length : Int) + 1))).tdiv 64) + 1)))).run Tryd.prog w.drew = .ok (.slice (some ⟨w.heap.size, 0, none⟩) n n) Wa := by
   rw [hX, ← hWa]
   exact run_make_row' (P := Tryd.prog) 116 113 (.int .u64 0) 8 Tryd.underlying116 (by kernel_rfl) rfl .i64 .i64 n (by omega) (by omega) w.drew
  have hlt : ∀ b, b < w.heap.size → Wa.heap[b]? = w.heap[b]? := fun b hb => by
   rw [← hWa]
   exact ((Below.refl w.heap.size w.drew).alloc (Nat.le_refl _) _).block b hb
  have hgl : g < w.heap.size := World.block_lt_of_cell? w _ hn
  have hfl : fa < w.heap.size := heap_lt hf.head
  have hb4 : Wa.cell? ⟨g, 4, none⟩ = _ := (World.cell?_of_block (w := w) (w' := Wa) (a := ⟨g, 4, none⟩) (hlt g hgl)).trans hn
  have hbe : Wa.cell? ⟨fa, e, none⟩ = _ := (World.cell?_of_block (w := w) (w' := Wa) (a := ⟨fa, e, none⟩) (hlt fa hfl)).trans hrow
  have hz : Wa.frozen? ⟨fa, e, none⟩ = false := by
   unfold World.frozen?
   rw [hlt fa hfl, hf.head]
   simp
  have hfg : fa ≠ g := fun x => hf.out (x ▸ hg)
  obtain ⟨W2, hW2⟩ : ∃ W2, Wa.setCell ⟨fa, e, none⟩ (.slice (some ⟨w.heap.size, 0, none⟩) n n) = W2 := ⟨_, rfl⟩
  have hsz : Wa.heap.size = w.heap.size + 1 := by rw [← hWa]; simp [World.alloc, -World.alloc_eq]
  have hold : ∀ k, k < w.heap.size → k ≠ fa → W2.heap[k]? = w.heap[k]? := fun k hk hne => by
   rw [← hW2, Deep.blk_setCell_other _ _ _ k hne]
   exact hlt k hk
  have hfr : FR C s L F fa _ W2 := hf.new (e := e) (n := n) (by rw [hM, hn2]) (by rw [← hW2, Deep.nblk_setCell, hsz]) hold (by rw [← hW2]; exact set_at ((hlt fa hfl).trans hf.head) e _) (by
   rw [← hW2, Deep.blk_setCell_other _ _ _ _ (show w.heap.size ≠ fa by omega), ← hWa]
   exact Deep.blk_alloc_new w.drew _)
  obtain ⟨n', V, Q, HO⟩ := HOR.out _ W2 w.heap.size (List.replicate n 0) hfr (if_pos rfl)
  have hK : Kp F w W2 := by
   rw [← hW2]
   refine Kp.set ⟨?_, ?_, ?_, by omega, fun b _ hb => hlt b hb⟩ fa e _ (fun _ => hf.out) <;> (rw [← hWa]; rfl)
  have hs2 : MStr W2 g s := (World.cell?_of_block (w := w) (w' := W2) (a := ⟨g, 3, none⟩) (hold g hgl (fun x => hfg x.symm))).trans hs
  have hn4 : W2.cell? ⟨g, 4, none⟩ = _ := (World.cell?_of_block (w := w) (w' := W2) (a := ⟨g, 4, none⟩) (hold g hgl (fun x => hfg x.symm))).trans hn
  have HK := Lib.hid hK
  have HS2 := Lib.hid hs2
  have HD := Lib.hid HO.done
  have ho1 := HO.row
  have ho2 := HO.lt
  have ho3 := HO.cell
  have ho4 := HO.soft
  have ho5 := HO.bits
  have HG : Hid (¬ F w.heap.size) := Lib.hid (fun h => by have := hf.bnd _ h; omega)
  have hW2' := Lib.hid hW2
  clear hW2
  clear hr hf hm hn2 hM hX hK hs2 HO hfr HOR
  go_enter Tryd.func51, Tryd.ntmps51
  go_wp2_with fail
  go_region
  have hW2 : Wa.setCell ⟨fa, e, none⟩ (.slice (some ⟨w.heap.size, 0, none⟩) n n) = W2 := hW2'.out
  rw [hW2]
  go_wp2_with (go_at_call 64; refine (HST.out _ HS2.out).mono fun ev w1 ⟨hev, q, hw1⟩ => ?_; subst hev hw1)
  go_end0
  exact ⟨rfl, HD.out q 0, (HK.out.drewN q).set _ _ _ (fun _ => HG.out)⟩
 | some x =>
  obtain ⟨b, vs⟩ := x
  obtain ⟨n, V, Q, HO⟩ := HOR.out _ w b vs hf hr
  have HS2 := Lib.hid hs
  have HD := Lib.hid HO.done
  have ho1 := HO.row
  have ho2 := HO.lt
  have ho3 := HO.cell
  have ho4 := HO.soft
  have ho5 := HO.bits
  have HG := Lib.hid HO.out
  have HK : Hid (Kp F w w) := Lib.hid ⟨rfl, rfl, rfl, Nat.le_refl _, fun _ _ _ => rfl⟩
  have heq := Lib.run_eql_slice_nil (P := Tryd.prog) w 116 113 (some ⟨b, 0, none⟩) n n 0 0 Tryd.underlying116
  clear hr hf hrow HO hs HOR
  go_enter Tryd.func51, Tryd.ntmps51
  go_wp2_with (go_at_call 64; refine (HST.out _ HS2.out).mono fun ev w1 ⟨hev, q, hw1⟩ => ?_; subst hev hw1)
  go_end0
  exact ⟨rfl, HD.out q 0, (HK.out.drewN q).set _ _ _ (fun _ => HG.out)⟩
end Go.Proofs.YtihdnlpelfgklaaDoor
namespace Go.Proofs.YtihdnlpelfgklaaDoor
open Go.RowKit
theorem le8 (a b : UInt8) : decide (a ≤ b) = decide ((a.toNat : Int) ≤ (b.toNat : Int)) := by
 rw [decide_eq_decide, UInt8.le_iff_toNat_le]
 omega
def inB (x : UInt8 × UInt8) (c : UInt8) : Bool := decide (x.1 ≤ c) && decide (c ≤ x.2)
set_option maxHeartbeats 4000000 in
set_option maxRecDepth 1000000 in
theorem has1_any (x : UInt8 × UInt8) (c : UInt8) (p : Nat) (w : World) (hp : p < w.heap.size) (hc : w.cell? ⟨p, 0, none⟩ = some (.int .u8 (c.toNat : Int))) :
  Calls Tryd.prog 66 #[.agg #[.int .u8 (x.1.toNat : Int), .int .u8 (x.2.toNat : Int)], .pointer (some ⟨p, 0, none⟩)] w fun e w' => e = .returned (.bool (inB x c)) ∧ Below w.heap.size w w' := by
 have hb : inB x c = (decide ((x.1.toNat : Int) ≤ (c.toNat : Int)) && decide ((c.toNat : Int) ≤ (x.2.toNat : Int))) := by unfold inB; rw [le8, le8]
 rw [hb]
 have HB := Lib.hid (fun o => (Below.refl w.heap.size w).alloc (Nat.le_refl _) o)
 have h1 := x.1.toNat_lt
 have h2 := x.2.toNat_lt
 have h3 := c.toNat_lt
 obtain ⟨a, ha⟩ : ∃ a, x.1.toNat = a := ⟨_, rfl⟩
 obtain ⟨b, hb'⟩ : ∃ b, x.2.toNat = b := ⟨_, rfl⟩
 obtain ⟨d, hd⟩ : ∃ d, c.toNat = d := ⟨_, rfl⟩
 rw [ha] at h1 ⊢
 rw [hb'] at h2 ⊢
 rw [hd] at h3 hc ⊢
 clear hb ha hb' hd
 by_cases g1 : a ≤ d
 ·by_cases g2 : d ≤ b
  ·rw [show (decide ((a : Int) ≤ (d : Int)) && decide ((d : Int) ≤ (b : Int))) = true by rw [decide_eq_true (by omega), decide_eq_true (by omega)]; rfl]
   go_enter Tryd.func66, Tryd.ntmps66
   go_wp2_with fail
   go_ret
   exact ⟨rfl, HB.out _⟩
  ·rw [show (decide ((a : Int) ≤ (d : Int)) && decide ((d : Int) ≤ (b : Int))) = false by rw [decide_eq_false (p := (d : Int) ≤ (b : Int)) (by omega), Bool.and_false]]
   go_enter Tryd.func66, Tryd.ntmps66
   go_wp2_with fail
   go_ret
   exact ⟨rfl, HB.out _⟩
 ·rw [show (decide ((a : Int) ≤ (d : Int)) && decide ((d : Int) ≤ (b : Int))) = false by rw [decide_eq_false (p := (a : Int) ≤ (d : Int)) (by omega), Bool.false_and]]
  go_enter Tryd.func66, Tryd.ntmps66
  go_wp2_with fail
  go_ret
  exact ⟨rfl, HB.out _⟩
set_option maxHeartbeats 4000000 in
set_option maxRecDepth 1000000 in
theorem idxf_any (rs : List (UInt8 × UInt8)) (v : Value) (c : UInt8) (p : Nat) (w : World) (h : RgAt w rs v) (hp : p < w.heap.size) (hc : w.cell? ⟨p, 0, none⟩ = some (.int .u8 (c.toNat : Int))) :
  Calls Tryd.prog 74 #[v, .func (.func 66) #[] #[.pointer (some ⟨p, 0, none⟩)]] w fun e w' => (∃ k : Int, e = .returned (.int .i64 k) ∧ decide (0 ≤ k) = rs.any fun x => inB x c) ∧ Below w.heap.size w w' := by
 obtain ⟨a, cp, rfl, hm, hk⟩ := h
 have HK := Lib.hid hk
 have HC := Lib.hid hc
 have H1 : Hid (∀ x W, Below w.heap.size w W → Calls Tryd.prog 66 #[.agg #[.int .u8 (x.1.toNat : Int), .int .u8 (x.2.toNat : Int)], .pointer (some ⟨p, 0, none⟩)] W fun e w' => e = .returned (.bool (inB x c)) ∧ Below w.heap.size w w') :=
  Lib.hid fun x W hW => (has1_any x c p W (Nat.lt_of_lt_of_le hp hW.size) ((hW.cell (p := ⟨p, 0, none⟩) hp).trans hc)).mono fun e w' ⟨he, hb⟩ => ⟨he, hW.trans (hb.mono hW.size)⟩
 clear hk hc
 go_enter Tryd.func74, Tryd.ntmps74
 go_wp2_with fail
 go_loopw [8] (fun i wr => ∃ k : Nat, i = .int .i64 k ∧ k ≤ rs.length ∧ Hid (rs.any (fun x => inB x c) = (rs.drop k).any fun x => inB x c) ∧ Below w.heap.size w wr) (fun i _ => rs.length - (intOf i).toNat)
 case atStart => exact ⟨0, rfl, by omega, Lib.hid (by rw [List.drop_zero]), Below.refl _ _⟩
 case round =>
  obtain ⟨k, rfl, hkl, hok, hb⟩ := hrel
  have HB := Lib.hid hb
  by_cases hlt : k < rs.length
  ·obtain ⟨blk, off, rfl, hl, c0, c1⟩ := HK.out k hlt
   have e0 := (hb.cell (p := ⟨blk, off + k * 2, none⟩) hl).trans c0
   have e1 := (hb.cell (p := ⟨blk, off + k * 2 + 1, none⟩) hl).trans c1
   have i1 : (k : Int) < (rs.length : Int) := by omega
   have hlw : blk < wr.heap.size := Nat.lt_of_lt_of_le hl hb.size
   have H2 := Lib.hid (H1.out rs[k] wr hb)
   have hdrop : rs.drop k = rs[k] :: rs.drop (k + 1) := List.drop_eq_getElem_cons hlt
   have HO := Lib.hid (hok.out.trans (by rw [hdrop, List.any_cons]))
   clear hok hdrop c0 c1 hb
   obtain ⟨x, hx⟩ : ∃ x, rs[k] = x := ⟨_, rfl⟩
   rw [hx] at e0 e1 H2 HO
   clear hx
   go_wp2_with fail
   refine H2.out.mono ?_
   rintro e w2 ⟨rfl, hb2⟩
   have HB2 := Lib.hid hb2
   clear hb2
   cases hi : inB x c with
   | true =>
    go_wp2_with fail
    go_ret
    exact ⟨⟨(k : Int), rfl, by rw [HO.out, hi, Bool.true_or]; exact decide_eq_true (by omega)⟩, HB2.out⟩
   | false =>
    go_wp2_with fail
    go_roundw
    case rel => exact ⟨k + 1, by go_num, by omega, Lib.hid (by rw [HO.out, hi, Bool.false_or]), HB2.out⟩
    case measure => simp [intOf]; omega
  ·go_wp2_with fail
   go_ret
   exact ⟨⟨-1, rfl, by rw [hok.out, List.drop_eq_nil_of_le (by omega)]; rfl⟩, hb⟩
set_option maxHeartbeats 4000000 in
set_option maxRecDepth 1000000 in
theorem conf_any (rs : List (UInt8 × UInt8)) (v : Value) (c : UInt8) (p : Nat) (w : World) (h : RgAt w rs v) (hp : p < w.heap.size) (hc : w.cell? ⟨p, 0, none⟩ = some (.int .u8 (c.toNat : Int))) :
  Calls Tryd.prog 65 #[v, .func (.func 66) #[] #[.pointer (some ⟨p, 0, none⟩)]] w fun e w' => e = .returned (.bool (rs.any fun x => inB x c)) ∧ Below w.heap.size w w' := by
 have H := Lib.hid (idxf_any rs v c p w h hp hc)
 clear h hc
 go_enter Tryd.func65, Tryd.ntmps65
 go_wp2_with (go_at_call 74; refine H.out.mono ?_; rintro e w2 ⟨⟨k, rfl, hk⟩, hb⟩; have HK := Lib.hid hk; have HB := Lib.hid hb; clear hk hb)
 go_ret
 exact ⟨ret_bool HK.out, HB.out⟩
theorem any_hasR (rs : List (UInt8 × UInt8)) (c : UInt8) : (rs.any fun x => inB x c) = Mt.hasR rs c := rfl
set_option maxHeartbeats 4000000 in
set_option maxRecDepth 1000000 in
theorem has_any (rs : List (UInt8 × UInt8)) (v : Value) (c : UInt8) (w : World) (h : RgAt w rs v) :
  Calls Tryd.prog 50 #[v, .int .u8 (c.toNat : Int)] w fun e w' => e = .returned (.bool (Mt.hasR rs c)) ∧ Below w.heap.size w w' := by
 have H : Hid (∀ W, Below w.heap.size w W → w.heap.size < W.heap.size → W.cell? ⟨w.heap.size, 0, none⟩ = some (.int .u8 (c.toNat : Int)) → Calls Tryd.prog 65 #[v, .func (.func 66) #[] #[.pointer (some ⟨w.heap.size, 0, none⟩)]] W fun e w' => e = .returned (.bool (Mt.hasR rs c)) ∧ Below w.heap.size w w') :=
  Lib.hid fun W hW hl hc => (conf_any rs v c w.heap.size W (h.later hW) hl hc).mono fun e w' ⟨he, hb⟩ => ⟨by rw [he, any_hasR], hW.trans (hb.mono hW.size)⟩
 have HB := Lib.hid (fun o => (Below.refl w.heap.size w).alloc (Nat.le_refl _) o)
 clear h
 obtain ⟨d, hd⟩ : ∃ d : Int, (c.toNat : Int) = d := ⟨_, rfl⟩
 rw [hd] at H ⊢
 clear hd
 obtain ⟨W, hW⟩ : ∃ W, w.alloc (.cells #[.int .u8 d] 5) = W := ⟨_, rfl⟩
 have H2 := Lib.hid (H.out W (by rw [← hW]; exact HB.out _) (by rw [← hW]; simp [World.alloc, -World.alloc_eq]) (by rw [← hW, Lib.cell_of_heap (Deep.blk_alloc_new w _)]; rfl))
 go_enter Tryd.func50, Tryd.ntmps50
 go_wp2_with fail
 refine H2.out.mono ?_
 rintro e w2 ⟨rfl, hb2⟩
 have HB2 := Lib.hid hb2
 clear hb2
 go_wp2_with fail
 go_ret
 exact ⟨rfl, HB2.out⟩
end Go.Proofs.YtihdnlpelfgklaaDoor
namespace Go.Proofs.YtihdnlpelfgklaaDoor
open Go.RowKit
namespace Mt
section
variable (C : List Ins) (s : List UInt8) (L : Nat)
def leastF (N pc at_ e : Nat) : Nat := ((List.range (N + 1)).findIdx? fun n => (runF C s L n pc at_ e).isSome).getD (N + 1)
theorem least_le {N n pc at_ e : Nat} {r : Res} (hn : n ≤ N) (h : runF C s L n pc at_ e = some r) : leastF C s L N pc at_ e ≤ n ∧ runF C s L (leastF C s L N pc at_ e) pc at_ e = some r := by
 have hx : ∃ m, (List.range (N + 1)).findIdx? (fun n => (runF C s L n pc at_ e).isSome) = some m := by
  cases hf : (List.range (N + 1)).findIdx? fun n => (runF C s L n pc at_ e).isSome with
  | some m => exact ⟨m, rfl⟩
  | none =>
   rw [List.findIdx?_eq_none_iff] at hf
   have := hf n (by rw [List.mem_range]; omega)
   rw [h] at this
   cases this
 obtain ⟨m, hm⟩ := hx
 have hl : leastF C s L N pc at_ e = m := by unfold leastF; rw [hm]; rfl
 rw [hl]
 rw [List.findIdx?_eq_some_iff_getElem] at hm
 obtain ⟨h1, h2, h3⟩ := hm
 simp only [List.getElem_range, List.length_range] at h1 h2 h3
 have hle : m ≤ n := by
  rcases Nat.lt_or_ge n m with c | c
  ·have := h3 n c
   rw [h] at this
   simp at this
  ·exact c
 refine ⟨hle, ?_⟩
 cases hr : runF C s L m pc at_ e with
 | none => rw [hr] at h2; cases h2
 | some q =>
  have := runF_le C s L hle hr
  rw [h] at this
  injection this with this
  rw [this]
end
def behind (r : Res) (ex : List Mk) : Res := r.map fun x => (x.1, x.2 ++ ex)
theorem behind_nil (r : Res) : behind r [] = r := by cases r with | none => rfl | some x => unfold behind; simp
theorem behind_add (r : Res) (m : Mk) (ex : List Mk) : behind (addM m r) ex = behind r (m :: ex) := by cases r with | none => rfl | some x => unfold behind addM; simp
end Mt
def Fg (F : Nat → Prop) (w w' : World) (b : Nat) : Prop := F b ∨ (w.heap.size ≤ b ∧ b < w'.heap.size)
structure GoF (F F' : Nat → Prop) (w w' : World) : Prop where
 kp : Kp F w w'
 mono : ∀ b, F b → F' b
theorem GoF.stay {F F' : Nat → Prop} {w w' : World} (h : GoF F F' w w') : Stay F F' w w' := ⟨h.kp.size, fun k hk hl => ⟨h.mono k hk, h.kp.block k hk hl⟩⟩
theorem GoF.refl (F : Nat → Prop) (w : World) : GoF F F w w := ⟨⟨rfl, rfl, rfl, Nat.le_refl _, fun _ _ _ => rfl⟩, fun _ h => h⟩
theorem GoF.trans {F0 F1 F2 : Nat → Prop} {w0 w1 w2 : World} (h : GoF F0 F1 w0 w1) (k : GoF F1 F2 w1 w2) : GoF F0 F2 w0 w2 :=
 ⟨⟨k.kp.os.trans h.kp.os, k.kp.tape.trans h.kp.tape, k.kp.output.trans h.kp.output, Nat.le_trans h.kp.size k.kp.size, fun b hb hl => (k.kp.block b (h.mono b hb) (Nat.lt_of_lt_of_le hl h.kp.size)).trans (h.kp.block b hb hl)⟩, fun b hb => k.mono b (h.mono b hb)⟩
theorem GoF.below {F : Nat → Prop} {w w' : World} (h : Below w.heap.size w w') : GoF F (Fg F w w') w w' := ⟨⟨h.os, h.tape, h.output, h.size, fun b _ hl => h.block b hl⟩, fun _ h => .inl h⟩
theorem FtB.below {C : List Mt.Ins} {s : List UInt8} {L : Nat} {F : Nat → Prop} {fa : Nat} {w w' : World} (hf : FtB C s L F fa w) (h : Below w.heap.size w w') : FtB C s L (Fg F w w') fa w' := by
 have hb : ∀ b, F b → b < w.heap.size := by obtain ⟨row, hf⟩ := hf; exact hf.bnd
 refine hf.keep (fun b hl => h.block b hl) (fun b hF => ?_)
 rcases hF with hF | hF
 ·exact ⟨Nat.lt_of_lt_of_le (hb b hF) h.size, fun _ => hF⟩
 ·exact ⟨hF.2, fun hl => absurd hF.1 (by omega)⟩
section
variable {C : List Mt.Ins} {s : List UInt8} {L : Nat} {F : Nat → Prop} {g fa : Nat} {w : World}
theorem MB.mstr (h : MB C s L F g fa w) : MStr w g s := by
 obtain ⟨ca, cc, nv, hc, _⟩ := h.cells
 unfold MStr
 rw [Lib.cell_of_heap hc]
 rfl
theorem MB.mno (h : MB C s L F g fa w) : MNo w g fa L := by
 obtain ⟨ca, cc, nv, hc, _⟩ := h.cells
 unfold MNo
 rw [Lib.cell_of_heap hc]
 rfl
theorem MB.code (h : MB C s L F g fa w) : ∃ ca cc, w.cell? ⟨g, 0, none⟩ = some (.slice ca C.length cc) ∧ RW F 4 (InR F w) w C (.slice ca C.length cc) := by
 obtain ⟨ca, cc, nv, hc, hr⟩ := h.cells
 exact ⟨ca, cc, by rw [Lib.cell_of_heap hc]; rfl, hr⟩
theorem MB.ins (h : MB C s L F g fa w) {pc : Nat} {i : Mt.Ins} (hi : C[pc]? = some i) : ∃ blk off cc ra rc, w.cell? ⟨g, 0, none⟩ = some (.slice (some ⟨blk, off, none⟩) C.length cc) ∧ blk < w.heap.size ∧
  w.cell? ⟨blk, off + pc * 4, none⟩ = some (.int .i64 (i.op : Int)) ∧ w.cell? ⟨blk, off + pc * 4 + 1, none⟩ = some (.int .i64 (i.x : Int)) ∧ w.cell? ⟨blk, off + pc * 4 + 2, none⟩ = some (.int .i64 (i.y : Int)) ∧ w.cell? ⟨blk, off + pc * 4 + 3, none⟩ = some (.slice ra i.rs.length rc) ∧ RW F 2 RgR w i.rs (.slice ra i.rs.length rc) := by
 obtain ⟨ca, cc, h0, hr⟩ := h.code
 obtain ⟨hlt, hget⟩ := List.getElem?_eq_some_iff.1 hi
 obtain ⟨a, c, e, _, hk⟩ := hr
 obtain ⟨blk, off, e1, hl, _, hc⟩ := hk (by omega)
 obtain ⟨us, hu, hcell, ra, rc, hus, hrw⟩ := hc pc hlt
 rw [hget] at hus hrw
 injection e with e2 e3 e4
 subst e2 e1
 subst hus
 exact ⟨blk, off, cc, ra, rc, h0, hl, hcell 0 (by decide), hcell 1 (by decide), hcell 2 (by decide), hcell 3 (by decide), hrw⟩
end
def RunP (C : List Mt.Ins) (s : List UInt8) (L : Nat) (fa : Nat) (F : Nat → Prop) (ms : List Mt.Mk) (w : World) (r : Mt.Res) (ev : Ending) (w' : World) : Prop := ∃ F', GoF F F' w w' ∧ FtB C s L F' fa w' ∧ match r with
 | none => ev = .returned (.tuple #[.int .i64 0, .pointer none, .bool false])
 | some x => ∃ v, ev = .returned (.tuple #[.int .i64 (x.1 : Int), v, .bool true]) ∧ MkAt F' w' (x.2 ++ ms) v
theorem RunP.no {C : List Mt.Ins} {s : List UInt8} {L fa : Nat} {F F' : Nat → Prop} {ms : List Mt.Mk} {w w' : World} {r : Mt.Res} (hr : r = none) (hg : GoF F F' w w') (hf : FtB C s L F' fa w') : RunP C s L fa F ms w r (.returned (.tuple #[.int .i64 0, .pointer none, .bool false])) w' := by
 subst hr
 exact ⟨F', hg, hf, rfl⟩
theorem RunP.yes {C : List Mt.Ins} {s : List UInt8} {L fa : Nat} {F F' : Nat → Prop} {ms : List Mt.Mk} {w w' : World} {r : Mt.Res} {a : Nat} {l : List Mt.Mk} {v : Value} (hr : r = some (a, l)) (hg : GoF F F' w w') (hf : FtB C s L F' fa w') (hm : MkAt F' w' (l ++ ms) v) : RunP C s L fa F ms w r (.returned (.tuple #[.int .i64 (a : Int), v, .bool true])) w' := by
 subst hr
 exact ⟨F', hg, hf, v, rfl, hm⟩
def RunAt (C : List Mt.Ins) (s : List UInt8) (L g fa N : Nat) : Prop := ∀ F pc at_ e ms v w r, MB C s L F g fa w → FtB C s L F fa w → MkAt F w ms v → at_ ≤ s.length → Mt.runF C s L N pc at_ e = some r →
 Calls Tryd.prog 33 #[.pointer (some ⟨g, 0, none⟩), .int .i64 ((pc : Nat) : Int), .int .i64 ((at_ : Nat) : Int), .int .i64 ((e : Nat) : Int), v] w (RunP C s L fa F ms w r)
end Go.Proofs.YtihdnlpelfgklaaDoor
namespace Go.Proofs.YtihdnlpelfgklaaDoor
open Go.RowKit
def InS (w0 : World) (i : Mt.Ins) (us : List Value) : Prop := ∃ ra rc, us = [.int .i64 (i.op : Int), .int .i64 (i.x : Int), .int .i64 (i.y : Int), .slice ra i.rs.length rc] ∧ RgAt w0 i.rs (.slice ra i.rs.length rc) ∧ i.rs.length ≤ 1000000 ∧ (ra = none → rc = 0)
structure PgR (w0 : World) (s : List UInt8) (g : Nat) (F : Nat → Prop) (code : List Mt.Ins) (names : List (List UInt8)) (lp : Nat) (cv nv : Value) (uss : List (List Value)) (W : World) : Prop where
 head : W.heap[g]? = some (.cells #[cv, nv, .int .i64 (lp : Int), .string ⟨s.toArray⟩, .slice none 0 0] 72 (0, 0))
 len : uss.length = code.length
 ins : ∀ k (h : k < code.length) (h' : k < uss.length), InS w0 code[k] uss[k]
 crow : W.ownsRow 0 76 4 cv code.length uss.flatten
 nrow : W.ownsRow 0 9 1 nv names.length (names.map fun x => Value.string ⟨x.toArray⟩)
 cout : ∀ k, cv.ownBlock = some k → ¬ F k ∧ k ≠ g ∧ nv.ownBlock ≠ some k
 nout : ∀ k, nv.ownBlock = some k → ¬ F k ∧ k ≠ g
 out : ¬ F g
 bnd : ∀ b, F b → b < W.heap.size
def PgS (w0 : World) (s : List UInt8) (g : Nat) (F : Nat → Prop) (code : List Mt.Ins) (names : List (List UInt8)) (lp : Nat) (W : World) : Prop := ∃ cv nv uss, PgR w0 s g F code names lp cv nv uss W
theorem own_block {W W' : World} {B : Nat} {e : TypeId} {k n : Nat} {v : Value} {xs : List Value} (h : W.ownsRow B e k v n xs) (hb : ∀ b, v.ownBlock = some b → W'.heap[b]? = W.heap[b]?) : W'.ownsRow B e k v n xs := by
 obtain ⟨h1, h2 | ⟨g, cap, cur, rfl, hB, hg, hr⟩⟩ := h
 ·exact ⟨h1, .inl h2⟩
 ·exact ⟨h1, .inr ⟨g, cap, cur, rfl, hB, (hb g rfl).trans hg, hr⟩⟩
theorem own_lt {W : World} {B : Nat} {e : TypeId} {k n : Nat} {v : Value} {xs : List Value} (h : W.ownsRow B e k v n xs) {b : Nat} (hb : v.ownBlock = some b) : b < W.heap.size := by
 obtain ⟨h1, ⟨rfl, _⟩ | ⟨g, cap, cur, rfl, hB, hg, hr⟩⟩ := h
 ·cases hb
 ·cases hb
  exact heap_lt hg
section
variable {w0 : World} {s : List UInt8} {g : Nat} {F F' : Nat → Prop} {code : List Mt.Ins} {names : List (List UInt8)} {lp : Nat} {cv nv : Value} {uss : List (List Value)} {W W' : World}
theorem PgR.keep (h : PgR w0 s g F code names lp cv nv uss W) (hb : ∀ b, b < W.heap.size → W'.heap[b]? = W.heap[b]?) (hF : ∀ b, F' b → b < W'.heap.size ∧ (b < W.heap.size → F b)) : PgR w0 s g F' code names lp cv nv uss W' where
 head := (hb g (heap_lt h.head)).trans h.head
 len := h.len
 ins := h.ins
 crow := own_block h.crow fun b hv => hb b (own_lt h.crow hv)
 nrow := own_block h.nrow fun b hv => hb b (own_lt h.nrow hv)
 cout := fun k hk => ⟨fun hf => (h.cout k hk).1 ((hF k hf).2 (own_lt h.crow hk)), (h.cout k hk).2⟩
 nout := fun k hk => ⟨fun hf => (h.nout k hk).1 ((hF k hf).2 (own_lt h.nrow hk)), (h.nout k hk).2⟩
 out := fun hf => h.out ((hF g hf).2 (heap_lt h.head))
 bnd := fun b hf => (hF b hf).1
theorem PgS.below (hp : PgS w0 s g F code names lp W) (h : Below W.heap.size W W') : PgS w0 s g (Fg F W W') code names lp W' := by
 obtain ⟨cv, nv, uss, hp⟩ := hp
 refine ⟨cv, nv, uss, hp.keep (fun b hl => h.block b hl) (fun b hF => ?_)⟩
 rcases hF with hF | hF
 ·exact ⟨Nat.lt_of_lt_of_le (hp.bnd b hF) h.size, fun _ => hF⟩
 ·exact ⟨hF.2, fun hl => absurd hF.1 (by omega)⟩
theorem PgR.c0 (h : PgR w0 s g F code names lp cv nv uss W) : W.cell? ⟨g, 0, none⟩ = some cv := by rw [Lib.cell_of_heap h.head]; rfl
theorem PgR.c1 (h : PgR w0 s g F code names lp cv nv uss W) : W.cell? ⟨g, 1, none⟩ = some nv := by rw [Lib.cell_of_heap h.head]; rfl
theorem PgR.c2 (h : PgR w0 s g F code names lp cv nv uss W) : W.cell? ⟨g, 2, none⟩ = some (.int .i64 (lp : Int)) := by rw [Lib.cell_of_heap h.head]; rfl
theorem PgR.fz (h : PgR w0 s g F code names lp cv nv uss W) (k : Nat) : W.frozen? ⟨g, k, none⟩ = false := by
 unfold World.frozen?
 rw [h.head]
 simp
theorem PgR.c0s (h : PgR w0 s g F code names lp cv nv uss W) : ∃ a c, cv = .slice a code.length c := by
 obtain ⟨_, ⟨h1, h2⟩ | ⟨q, cap, cur, h1, _⟩⟩ := h.crow
 ·exact ⟨none, 0, by rw [h1, h2]⟩
 ·exact ⟨_, _, h1⟩
theorem PgR.uss4 (h : PgR w0 s g F code names lp cv nv uss W) : ∀ u ∈ uss, u.length = 4 := fun u hu => by
 obtain ⟨i, hi, rfl⟩ := List.getElem_of_mem hu
 obtain ⟨ra, rc, e, _⟩ := h.ins i (by rw [← h.len]; exact hi) hi
 rw [e]
 rfl
theorem PgR.setLp (h : PgR w0 s g F code names lp cv nv uss W) (lp' : Nat) : PgR w0 s g F code names lp' cv nv uss (W.setCell ⟨g, 2, none⟩ (.int .i64 (lp' : Int))) where
 head := set_at h.head 2 _
 len := h.len
 ins := h.ins
 crow := own_block h.crow fun b hv => Deep.blk_setCell_other _ _ _ b (h.cout b hv).2.1
 nrow := own_block h.nrow fun b hv => Deep.blk_setCell_other _ _ _ b (h.nout b hv).2
 cout := h.cout
 nout := h.nout
 out := h.out
 bnd := fun b hf => by rw [Deep.nblk_setCell]; exact h.bnd b hf
theorem PgR.push (h : PgR w0 s g F code names lp cv nv uss W) {W1 : World} {cv' : Value} {i : Mt.Ins} {us : List Value} (hi : InS w0 i us) (hsz : W.heap.size ≤ W1.heap.size) (hb : ∀ b, b < W.heap.size → cv.ownBlock ≠ some b → W1.heap[b]? = W.heap[b]?) (hrow : W1.ownsRow 0 76 4 cv' (code.length + 1) (uss.flatten ++ us)) (hown : ∀ k, cv'.ownBlock = some k → cv.ownBlock = some k ∨ W.heap.size ≤ k) :
  PgR w0 s g F (code ++ [i]) names lp cv' nv (uss ++ [us]) (W1.setCell ⟨g, 0, none⟩ cv') where
 head := by
  have hg : cv.ownBlock ≠ some g := fun e => (h.cout g e).2.1 rfl
  exact set_at ((hb g (heap_lt h.head) hg).trans h.head) 0 cv'
 len := by simp [h.len]
 ins := fun k hk hk' => by
  by_cases e : k < code.length
  ·rw [List.getElem_append_left e, List.getElem_append_left (by rw [h.len]; exact e)]
   exact h.ins k e _
  ·have e2 : k = code.length := by rw [List.length_append, List.length_singleton] at hk; omega
   subst e2
   rw [List.getElem_append_right (by omega), List.getElem_append_right (by rw [h.len]; omega)]
   simp [h.len, hi]
 crow := by
  rw [List.length_append, List.length_singleton, List.flatten_append, show [us].flatten = us by simp]
  refine own_block hrow fun b hv => Deep.blk_setCell_other _ _ _ b ?_
  rcases hown b hv with e | e
  ·exact (h.cout b e).2.1
  ·have := heap_lt h.head
   exact fun x => by have : b = g := x; omega
 nrow := own_block h.nrow fun b hv => by
  rw [Deep.blk_setCell_other _ _ _ b (h.nout b hv).2]
  exact hb b (own_lt h.nrow hv) (fun e => (h.cout b e).2.2 hv)
 cout := fun k hk => by
  rcases hown k hk with e | e
  ·exact h.cout k e
  ·refine ⟨fun hf => ?_, fun x => ?_, fun x => ?_⟩
   ·have := h.bnd k hf; omega
   ·have := heap_lt h.head; omega
   ·have := own_lt h.nrow x; omega
 nout := h.nout
 out := h.out
 bnd := fun b hf => by rw [Deep.nblk_setCell]; have := h.bnd b hf; omega
theorem PgR.name (h : PgR w0 s g F code names lp cv nv uss W) {W1 : World} {nv' : Value} {nm : List UInt8} (hsz : W.heap.size ≤ W1.heap.size) (hb : ∀ b, b < W.heap.size → nv.ownBlock ≠ some b → W1.heap[b]? = W.heap[b]?) (hrow : W1.ownsRow 0 9 1 nv' (names.length + 1) ((names.map fun x => Value.string ⟨x.toArray⟩) ++ [.string ⟨nm.toArray⟩])) (hown : ∀ k, nv'.ownBlock = some k → nv.ownBlock = some k ∨ W.heap.size ≤ k) :
  PgR w0 s g F code (names ++ [nm]) lp cv nv' uss (W1.setCell ⟨g, 1, none⟩ nv') where
 head := by
  have hg : nv.ownBlock ≠ some g := fun e => (h.nout g e).2 rfl
  exact set_at ((hb g (heap_lt h.head) hg).trans h.head) 1 nv'
 len := h.len
 ins := h.ins
 crow := own_block h.crow fun b hv => by
  rw [Deep.blk_setCell_other _ _ _ b (h.cout b hv).2.1]
  exact hb b (own_lt h.crow hv) (h.cout b hv).2.2
 nrow := by
  rw [List.length_append, List.length_singleton, List.map_append]
  refine own_block hrow fun b hv => Deep.blk_setCell_other _ _ _ b ?_
  rcases hown b hv with e | e
  ·exact (h.nout b e).2
  ·have := heap_lt h.head
   exact fun x => by have : b = g := x; omega
 cout := fun k hk => by
  refine ⟨(h.cout k hk).1, (h.cout k hk).2.1, fun x => ?_⟩
  rcases hown k x with e | e
  ·exact (h.cout k hk).2.2 e
  ·have := own_lt h.crow hk; omega
 nout := fun k hk => by
  rcases hown k hk with e | e
  ·exact h.nout k e
  ·refine ⟨fun hf => ?_, fun x => ?_⟩
   ·have := h.bnd k hf; omega
   ·have := heap_lt h.head; omega
 out := h.out
 bnd := fun b hf => by rw [Deep.nblk_setCell]; have := h.bnd b hf; omega
end
end Go.Proofs.YtihdnlpelfgklaaDoor
namespace Go.Proofs.YtihdnlpelfgklaaDoor
open Go.RowKit
theorem step_append_run {P : Program} {ops : Array Oper} {o : Oper} {a : Act} {w w' : World} {K : Act → World → Prop} {Q : Exit → Act → World → Prop} {E : Prop} (hg : o.guard = none) (s x : Operand) (t : TypeId) (hop : o.op = Op.call { callee := Callee.builtin Builtin.append, args := #[s, x], argTypes := #[t, t] })
  (v u v' : Value) (hs : a.eval s = v) (hx : a.eval x = u) (hrun : (Builtin.append_ #[t, t] o.type #[v, u]).run P w = .ok v' w') (hK : K (a.put o.dst v') w') : if Region.wanted o (yielded ops a.tmps) = true then Oper.wp P o a w K Q else E := by
 have hw : Region.wanted o (yielded ops a.tmps) = true := by simp [Region.wanted, hg]
 rw [if_pos hw]
 unfold Oper.wp
 simp [execOp, hop, resolve, invoke, builtin, hs, hx, hrun, Result.andThen]
 exact hK
theorem infoIn : (Tryd.prog.info? 76).map (fun i => (i.zero, i.size, i.bytes)) = some (some (.agg #[.int .i64 0, .int .i64 0, .int .i64 0, .slice none 0 0]), 4, 48) := by kernel_rfl
set_option maxHeartbeats 8000000 in
set_option maxRecDepth 1000000 in
theorem emit_any (w0 : World) (s : List UInt8) (g : Nat) (F : Nat → Prop) (code : List Mt.Ins) (names : List (List UInt8)) (lp : Nat) (i : Mt.Ins) (ra : Option Addr) (rc : Nat) (W : World) (hp : PgS w0 s g F code names lp W) (hr : RgAt w0 i.rs (.slice ra i.rs.length rc) ∧ i.rs.length ≤ 1000000 ∧ (ra = none → rc = 0)) (hl : code.length ≤ 100000) :
  Calls Tryd.prog 32 #[.pointer (some ⟨g, 0, none⟩), .agg #[.int .i64 (i.op : Int), .int .i64 (i.x : Int), .int .i64 (i.y : Int), .slice ra i.rs.length rc]] W fun e W' => e = .returned (.int .i64 (code.length : Int)) ∧ PgS w0 s g F (code ++ [i]) names lp W' ∧ GoF F F W W' := by
 obtain ⟨cv, nv, uss, hp⟩ := hp
 obtain ⟨i0, hi, hz0, hz1, hz2⟩ := info_parts infoIn
 obtain ⟨us, hus⟩ : ∃ us : List Value, us = [.int .i64 (i.op : Int), .int .i64 (i.x : Int), .int .i64 (i.y : Int), .slice ra i.rs.length rc] := ⟨_, rfl⟩
 obtain ⟨Wa, hWa⟩ : ∃ Wa, W.alloc (.cells #[.int .i64 (i.op : Int), .int .i64 (i.x : Int), .int .i64 (i.y : Int), .slice ra i.rs.length rc] 76) = Wa := ⟨_, rfl⟩
 have hba : Below W.heap.size W Wa := by rw [← hWa]; exact (Below.refl _ _).alloc (Nat.le_refl _) _
 have hsz : Wa.heap.size = W.heap.size + 1 := by rw [← hWa]; exact Deep.nblk_alloc W _
 obtain ⟨Wb, hWb⟩ : ∃ Wb, Wa.drew.alloc (.cells #[.int .i64 (i.op : Int), .int .i64 (i.x : Int), .int .i64 (i.y : Int), .slice ra i.rs.length rc] 76) = Wb := ⟨_, rfl⟩
 have hbb : Below W.heap.size W Wb := by rw [← hWb]; exact (hba.trans ((Below.refl _ _).drew)).alloc (by show W.heap.size ≤ Wa.heap.size; omega) _
 have hnb : Wb.heap[Wa.heap.size]? = some (.cells #[.int .i64 (i.op : Int), .int .i64 (i.x : Int), .int .i64 (i.y : Int), .slice ra i.rs.length rc] 76 (0, 0)) := by rw [← hWb]; exact Deep.blk_alloc_new Wa.drew _
 have hpb := hp.keep (W' := Wb) (F' := F) (fun b hl => hbb.block b hl) (fun b hF => ⟨Nat.lt_of_lt_of_le (hp.bnd b hF) hbb.size, fun _ => hF⟩)
 obtain ⟨cv', Wc, hrun, hown, hgr, _, hnew⟩ := run_append_own2 (P := Tryd.prog) (w := Wb) 0 67 67 76 i0 (.agg #[.int .i64 0, .int .i64 0, .int .i64 0, .slice none 0 0]) 4 48 Tryd.underlying67 hi hz0 hz1 hz2 rfl (by decide) cv code.length uss.flatten hpb.crow ⟨Wa.heap.size, 0, none⟩ 1 1 us (by rw [hus]; rfl) (by rw [hus]; exact World.news_of_block hnb) (by rw [hus]; intro u hu; simp only [List.mem_cons, List.not_mem_nil, or_false] at hu; rcases hu with rfl | rfl | rfl | rfl <;> rfl) (by unfold maxLen; omega) (by omega) (Nat.zero_le _)
 obtain ⟨a', c', hcv'⟩ : ∃ a c, cv' = .slice a (code.length + 1) c := by
  obtain ⟨_, ⟨h1, h2⟩ | ⟨q, cap, cur, h1, _⟩⟩ := hown
  ·omega
  ·exact ⟨_, _, h1⟩
 have hgg : cv.ownBlock ≠ some g := fun e => (hp.cout g e).2.1 rfl
 have hgl : g < W.heap.size := heap_lt hp.head
 have hcg : Wc.heap[g]? = Wb.heap[g]? := hgr.block g (heap_lt hpb.head) (fun e => hgg e.symm)
 have hpush := hp.push (W1 := Wc) (i := i) (us := us) ⟨ra, rc, hus, hr⟩ (Nat.le_trans hbb.size hgr.size) (fun b hb he => (hgr.block b (Nat.lt_of_lt_of_le hb hbb.size) (fun e => he e.symm)).trans (hbb.block b hb)) hown (fun k hk => (hnew k hk).imp id (fun h => Nat.le_trans hbb.size h))
 have hkp : GoF F F W (Wc.setCell ⟨g, 0, none⟩ cv') := ⟨Kp.set ⟨hgr.os.trans hbb.os, hgr.tape.trans hbb.tape, hgr.output.trans hbb.output, Nat.le_trans hbb.size hgr.size, fun b hb hl => (hgr.block b (Nat.lt_of_lt_of_le hl hbb.size) (fun e => (hp.cout b e.symm).1 hb)).trans (hbb.block b hl)⟩ g 0 _ (fun _ => hp.out), fun _ h => h⟩
 have HPS : Hid (PgS w0 s g F (code ++ [i]) names lp (Wc.setCell ⟨g, 0, none⟩ cv')) := Lib.hid ⟨_, _, _, hpush⟩
 have HKP := Lib.hid hkp
 have e0 : Wa.cell? ⟨g, 0, none⟩ = some cv := (hba.cell (p := ⟨g, 0, none⟩) hgl).trans hp.c0
 have e1 : Wb.cell? ⟨g, 0, none⟩ = some cv := hpb.c0
 have e2 : Wc.cell? ⟨g, 0, none⟩ = some cv := (World.cell?_of_block (w := Wb) (w' := Wc) (a := ⟨g, 0, none⟩) hcg).trans hpb.c0
 have e3 : Wc.frozen? ⟨g, 0, none⟩ = false := (World.frozen?_of_block (w := Wb) (w' := Wc) (a := ⟨g, 0, none⟩) hcg).trans (hpb.fz 0)
 have hna : Wa.heap[W.heap.size]? = some (.cells #[.int .i64 (i.op : Int), .int .i64 (i.x : Int), .int .i64 (i.y : Int), .slice ra i.rs.length rc] 76 (0, 0)) := by rw [← hWa]; exact Deep.blk_alloc_new W _
 have b0 : Wa.cell? ⟨W.heap.size, 0, none⟩ = some (.int .i64 (i.op : Int)) := by rw [Lib.cell_of_heap hna]; rfl
 have b1 : Wa.cell? ⟨W.heap.size, 1, none⟩ = some (.int .i64 (i.x : Int)) := by rw [Lib.cell_of_heap hna]; rfl
 have b2 : Wa.cell? ⟨W.heap.size, 2, none⟩ = some (.int .i64 (i.y : Int)) := by rw [Lib.cell_of_heap hna]; rfl
 have b3 : Wa.cell? ⟨W.heap.size, 3, none⟩ = some (.slice ra i.rs.length rc) := by rw [Lib.cell_of_heap hna]; rfl
 have e4 : Wc.setCell ⟨g, 0, none⟩ cv' = Wc.setCell ⟨g, 0, none⟩ cv' := rfl
 subst hcv'
 rw [hsz] at hrun
 clear hp hpb hus hpush hkp hown hgr hnew hcg hna hnb hi hz0 hz1 hz2 hba hbb hr hgg e4
 go_enter Tryd.func32, Tryd.ntmps32
 go_wp2_with fail
 go_region_law (refine step_append_run (by rfl) _ _ _ (by rfl) _ _ _ (by rfl) (by rfl) hrun ?_)
 all_goals
  go_wp2_with fail
  go_ret
  exact ⟨ret_int (by omega), HPS.out, HKP.out⟩
end Go.Proofs.YtihdnlpelfgklaaDoor
namespace Go.Proofs
open Go.Shelf
def Tryd.lays122_ren : Go.Shelf.Ren := ⟨fun | 122 => 36 | 215 => 53 | n => n, fun | 3 => 3 | 4 => 4 | n => n, fun | n => n⟩
theorem Tryd.lays122 : Go.Proofs.Lays.n122 Tryd.prog Tryd.lays122_ren := {
 mixed := by kernel_rfl
 f122 := Tryd.func36.trans (congrArg some (by kernel_rfl))
 f215 := Tryd.func53.trans (congrArg some (by kernel_rfl))
 t3 := Tryd.underlying3
 a3 := Tryd.isAgg3
 z3 := Tryd.sizeOf3
 v3 := Tryd.zeroValue3
 t4 := Tryd.underlying4
 a4 := Tryd.isAgg4
 z4 := Tryd.sizeOf4
 v4 := Tryd.zeroValue4 }
open Go.RowKit in
theorem Tryd.cmp_Compare_int (x y : Int) (w : World) :
  Calls Tryd.prog 36 #[.int .i64 x, .int .i64 y] w fun e w' => e = .returned (.int .i64 (Lib.compareInt x y)) ∧ w' = w := Any.cmp_Compare_int Tryd.lays122 x y w
def Tryd.lays101_ren : Go.Shelf.Ren := ⟨fun | 101 => 99 | 208 => 100 | 206 => 101 | n => n, fun | 9 => 9 | 4 => 4 | 3 => 3 | n => n, fun | n => n⟩
theorem Tryd.lays101 : Go.Proofs.Lays.n101 Tryd.prog Tryd.lays101_ren := {
 mixed := by kernel_rfl
 f101 := Tryd.func99.trans (congrArg some (by kernel_rfl))
 f206 := Tryd.func101.trans (congrArg some (by kernel_rfl))
 f208 := Tryd.func100.trans (congrArg some (by kernel_rfl))
 t3 := Tryd.underlying3
 a3 := Tryd.isAgg3
 z3 := Tryd.sizeOf3
 v3 := Tryd.zeroValue3
 t4 := Tryd.underlying4
 a4 := Tryd.isAgg4
 z4 := Tryd.sizeOf4
 v4 := Tryd.zeroValue4
 t9 := Tryd.underlying9
 a9 := Tryd.isAgg9
 z9 := Tryd.sizeOf9
 v9 := Tryd.zeroValue9 }
open Go.RowKit Go.Lib in
theorem Tryd.strings_TrimPrefix (s p : ByteArray) (w : World) :
  Calls Tryd.prog 99 #[.string s, .string p] w fun e w' => e = .returned (.string ⟨(Lib.trimPrefix s.data.toList p.data.toList).toArray⟩) ∧ w' = w := Any.strings_TrimPrefix Tryd.lays101 s p w
def Tryd.lays109_ren : Go.Shelf.Ren := ⟨fun | 109 => 59 | n => n, fun | 31 => 43 | 9 => 9 | 3 => 3 | 0 => 0 | 4 => 4 | n => n, fun | n => n⟩
theorem Tryd.lays109 : Go.Proofs.Lays.n109 Tryd.prog Tryd.lays109_ren := {
 mixed := by kernel_rfl
 f109 := Tryd.func59.trans (congrArg some (by kernel_rfl))
 t0 := Tryd.underlying0
 a0 := Tryd.isAgg0
 z0 := Tryd.sizeOf0
 v0 := Tryd.zeroValue0
 t3 := Tryd.underlying3
 a3 := Tryd.isAgg3
 z3 := Tryd.sizeOf3
 v3 := Tryd.zeroValue3
 t4 := Tryd.underlying4
 a4 := Tryd.isAgg4
 z4 := Tryd.sizeOf4
 v4 := Tryd.zeroValue4
 t9 := Tryd.underlying9
 a9 := Tryd.isAgg9
 z9 := Tryd.sizeOf9
 v9 := Tryd.zeroValue9
 t31 := Tryd.underlying43
 a31 := Tryd.isAgg43
 z31 := Tryd.sizeOf43
 v31 := Tryd.zeroValue43 }
open Go.Lib in
theorem Tryd.slices_Index_string (b off n c : Nat) (zs : List ByteArray) (x : ByteArray) (w : World) (hz : n ≤ zs.length) (hbig : n ≤ 9223372036854775807) (hc : ∀ j, j < zs.length → w.cell? ⟨b, off + j, none⟩ = some (.string (zs.getD j ByteArray.empty))) :
  Calls Tryd.prog 59 #[.slice (some ⟨b, off, none⟩) n c, .string x] w fun e w' => e = .returned (.int .i64 (Lib.idxOfS (zs.take n) x)) ∧ w' = w := Any.slices_Index_string Tryd.lays109 b off n c zs x w hz hbig hc
open Go.Lib in
theorem Tryd.slices_Index_string_empty (a : Option Addr) (c : Nat) (x : ByteArray) (w : World) :
  Calls Tryd.prog 59 #[.slice a 0 c, .string x] w fun e w' => e = .returned (.int .i64 (Lib.idxOfS [] x)) ∧ w' = w := Any.slices_Index_string_empty Tryd.lays109 a c x w
end Go.Proofs
namespace Go.Proofs.YtihdnlpelfgklaaDoor
open Go.RowKit
theorem idx_from (nm : List UInt8) : ∀ (ns : List (List UInt8)) (i : Nat), Lib.idxFromS (ns.map fun x => (⟨x.toArray⟩ : ByteArray)) ⟨nm.toArray⟩ i = if ns.contains nm = true then ((i + Mt.capI ns nm : Nat) : Int) else -1
 | [], i => by simp [Lib.idxFromS]
 | n :: ns, i => by
  have hin : ((⟨n.toArray⟩ : ByteArray) = ⟨nm.toArray⟩) ↔ n = nm := by
   constructor
   ·intro h
    have h1 := congrArg ByteArray.data h
    simpa using h1
   ·rintro rfl
    rfl
  rw [List.map_cons, Lib.idxFromS]
  by_cases h : n = nm
  ·rw [if_pos (hin.2 h)]
   subst h
   have hc : Mt.capI (n :: ns) n = 0 := by unfold Mt.capI; rw [List.findIdx?_cons]; simp
   rw [hc]
   simp
  ·rw [if_neg (fun e => h (hin.1 e)), idx_from nm ns (i + 1)]
   have hcont : (n :: ns).contains nm = ns.contains nm := by
    rw [List.contains_cons]
    have : (nm == n) = false := by rw [beq_eq_false_iff_ne]; exact fun e => h e.symm
    rw [this, Bool.false_or]
   rw [hcont]
   cases hb : ns.contains nm with
   | false => rfl
   | true =>
    rw [if_pos rfl, if_pos rfl]
    have hnf : ∃ k, ns.findIdx? (· == nm) = some k := by
     cases hf : ns.findIdx? (· == nm) with
     | some k => exact ⟨k, rfl⟩
     | none =>
      rw [List.findIdx?_eq_none_iff] at hf
      have := hf nm (by simpa using hb)
      simp at this
    obtain ⟨k, hk⟩ := hnf
    have h2 : (n == nm) = false := by rw [beq_eq_false_iff_ne]; exact h
    have hc : Mt.capI (n :: ns) nm = Mt.capI ns nm + 1 := by
     unfold Mt.capI
     rw [List.findIdx?_cons, h2, hk]
     simp
    rw [hc]
    omega
theorem idx_cap (ns : List (List UInt8)) (nm : List UInt8) : Lib.idxOfS (ns.map fun x => (⟨x.toArray⟩ : ByteArray)) ⟨nm.toArray⟩ = if ns.contains nm = true then ((Mt.capI ns nm : Nat) : Int) else -1 := by
 unfold Lib.idxOfS
 rw [idx_from, Nat.zero_add]
theorem capI_new {ns : List (List UInt8)} {nm : List UInt8} (h : ns.contains nm = false) : Mt.capI ns nm = ns.length := by
 unfold Mt.capI
 have : ns.findIdx? (· == nm) = none := by
  rw [List.findIdx?_eq_none_iff]
  intro x hx
  rw [beq_eq_false_iff_ne]
  rintro rfl
  have : ns.contains x = true := by simpa using hx
  rw [h] at this
  cases this
 rw [this]
 rfl
theorem wpList_append_run {P : Program} {w w' : World} {ops : Array Oper} {rest : List Oper} {o : Oper} {a : Act} {Q : Exit → Act → World → Prop} (hgd : o.guard = none) (s x : Operand) (t : TypeId) (hop : o.op = .call { callee := .builtin .append, args := #[s, x], argTypes := #[t, t] })
  (v u v' : Value) (hs : a.eval s = v) (hx : a.eval x = u) (hrun : (Builtin.append_ #[t, t] o.type #[v, u]).run P w = .ok v' w') (h : wpList P ops Q rest (a.put o.dst v') w') : wpList P ops Q (o :: rest) a w := by
 refine wpList_plain hgd fun K hK' => ?_
 unfold Oper.wp
 simp [execOp, hop, resolve, invoke, builtin, hs, hx, hrun, Result.andThen]
 exact hK' _ _ h
theorem infoSt : (Tryd.prog.info? 9).map (fun i => (i.zero, i.size, i.bytes)) = some (some (.string ⟨#[]⟩), 1, 16) := by kernel_rfl
theorem PgR.idx {w0 : World} {s : List UInt8} {g : Nat} {F : Nat → Prop} {code : List Mt.Ins} {names : List (List UInt8)} {lp : Nat} {cv nv : Value} {uss : List (List Value)} {W : World} (h : PgR w0 s g F code names lp cv nv uss W) (hl : names.length ≤ 100000) (nm : List UInt8) :
  Calls Tryd.prog 59 #[nv, .string ⟨nm.toArray⟩] W fun e w' => e = .returned (.int .i64 (if names.contains nm = true then ((Mt.capI names nm : Nat) : Int) else -1)) ∧ w' = W := by
 rw [← idx_cap]
 obtain ⟨h1, ⟨rfl, h2⟩ | ⟨q, cap, cur, rfl, _, hg, _, _, hcs, htk⟩⟩ := h.nrow
 ·obtain rfl := List.length_eq_zero_iff.1 h2
  exact Tryd.slices_Index_string_empty none 0 ⟨nm.toArray⟩ W
 ·refine (Tryd.slices_Index_string q 0 names.length cap (names.map fun x => (⟨x.toArray⟩ : ByteArray)) ⟨nm.toArray⟩ W (by simp) (by omega) (fun j hj => ?_)).mono fun e w' ⟨h3, h4⟩ => ⟨?_, h4⟩
  ·rw [List.length_map] at hj
   rw [Lib.cell_of_heap hg, Nat.zero_add]
   have e : (cur.toList.take (names.length * 1))[j]? = (names.map fun x => Value.string ⟨x.toArray⟩)[j]? := by rw [htk]
   rw [List.getElem?_take_of_lt (by omega)] at e
   simp only [Array.getElem?_toList] at e
   rw [e]
   simp [hj]
  ·rw [h3, List.take_of_length_le (by simp)]
set_option maxHeartbeats 8000000 in
set_option maxRecDepth 1000000 in
theorem capture_any (w0 : World) (s : List UInt8) (g : Nat) (F : Nat → Prop) (code : List Mt.Ins) (names : List (List UInt8)) (lp : Nat) (nm : List UInt8) (W : World) (hp : PgS w0 s g F code names lp W) (hl : names.length ≤ 100000) :
  Calls Tryd.prog 47 #[.pointer (some ⟨g, 0, none⟩), .string ⟨nm.toArray⟩] W fun e W' => e = .returned (.int .i64 ((Mt.capI names nm : Nat) : Int)) ∧ PgS w0 s g F code (Mt.capL names nm) lp W' ∧ GoF F F W W' := by
 obtain ⟨cv, nv, uss, hp⟩ := hp
 have HI := Lib.hid (hp.idx hl nm)
 have c1 := hp.c1
 cases hc : names.contains nm with
 | true =>
  have hcl : Mt.capL names nm = names := by unfold Mt.capL; rw [if_pos hc]
  rw [hcl]
  have HP : Hid (PgS w0 s g F code names lp W) := Lib.hid ⟨_, _, _, hp⟩
  rw [hc] at HI
  obtain ⟨k, hk⟩ : ∃ k, Mt.capI names nm = k := ⟨_, rfl⟩
  rw [hk] at HI ⊢
  clear hp hc hcl hk
  go_enter Tryd.func47, Tryd.ntmps47
  go_wp2_with (go_at_call 59; refine HI.out.mono fun e w1 ⟨he, hw⟩ => ?_; subst hw; rw [if_pos rfl] at he; subst he)
  go_ret
  exact ⟨rfl, HP.out, GoF.refl _ _⟩
 | false =>
  have hcl : Mt.capL names nm = names ++ [nm] := by unfold Mt.capL; rw [hc]; rfl
  rw [hcl, capI_new hc]
  rw [hc] at HI
  obtain ⟨i0, hi, hz0, hz1, hz2⟩ := info_parts infoSt
  obtain ⟨Wb, hWb⟩ : ∃ Wb, W.alloc (.cells #[.string ⟨nm.toArray⟩] 9) = Wb := ⟨_, rfl⟩
  have hbb : Below W.heap.size W Wb := by rw [← hWb]; exact (Below.refl _ _).alloc (Nat.le_refl _) _
  have hnb : Wb.heap[W.heap.size]? = some (.cells #[.string ⟨nm.toArray⟩] 9 (0, 0)) := by rw [← hWb]; exact Deep.blk_alloc_new W _
  have hpb := hp.keep (W' := Wb) (F' := F) (fun b hl => hbb.block b hl) (fun b hF => ⟨Nat.lt_of_lt_of_le (hp.bnd b hF) hbb.size, fun _ => hF⟩)
  obtain ⟨nv', Wc, hrun, hown, hgr, _, hnew⟩ := run_append_own2 (P := Tryd.prog) (w := Wb) 0 43 43 9 i0 (.string ⟨#[]⟩) 1 16 Tryd.underlying43 hi hz0 hz1 hz2 rfl (by decide) nv names.length _ hpb.nrow ⟨W.heap.size, 0, none⟩ 1 1 [.string ⟨nm.toArray⟩] rfl (World.news_of_block hnb) (by intro u hu; simp only [List.mem_cons, List.not_mem_nil, or_false] at hu; subst hu; rfl) (by unfold maxLen; omega) (by omega) (Nat.zero_le _)
  have hgg : nv.ownBlock ≠ some g := fun e => (hp.nout g e).2 rfl
  have hgl : g < W.heap.size := heap_lt hp.head
  have hcg : Wc.heap[g]? = Wb.heap[g]? := hgr.block g (heap_lt hpb.head) (fun e => hgg e.symm)
  have hpush := hp.name (W1 := Wc) (nm := nm) (Nat.le_trans hbb.size hgr.size) (fun b hb he => (hgr.block b (Nat.lt_of_lt_of_le hb hbb.size) (fun e => he e.symm)).trans (hbb.block b hb)) hown (fun k hk => (hnew k hk).imp id (fun h => Nat.le_trans hbb.size h))
  have hkp : GoF F F W (Wc.setCell ⟨g, 1, none⟩ nv') := ⟨Kp.set ⟨hgr.os.trans hbb.os, hgr.tape.trans hbb.tape, hgr.output.trans hbb.output, Nat.le_trans hbb.size hgr.size, fun b hb hl => (hgr.block b (Nat.lt_of_lt_of_le hl hbb.size) (fun e => (hp.nout b e.symm).1 hb)).trans (hbb.block b hl)⟩ g 1 _ (fun _ => hp.out), fun _ h => h⟩
  have HPS : Hid (PgS w0 s g F code (names ++ [nm]) lp (Wc.setCell ⟨g, 1, none⟩ nv')) := Lib.hid ⟨_, _, _, hpush⟩
  have HKP := Lib.hid hkp
  have e2 : Wc.cell? ⟨g, 1, none⟩ = some nv := (World.cell?_of_block (w := Wb) (w' := Wc) (a := ⟨g, 1, none⟩) hcg).trans hpb.c1
  have e3 : Wc.frozen? ⟨g, 1, none⟩ = false := (World.frozen?_of_block (w := Wb) (w' := Wc) (a := ⟨g, 1, none⟩) hcg).trans (hpb.fz 1)
  obtain ⟨na, nc, hnv⟩ : ∃ a c, nv = .slice a names.length c := by
   obtain ⟨_, ⟨h1, h2⟩ | ⟨q, cap, cur, h1, _⟩⟩ := hp.nrow
   ·exact ⟨none, 0, by rw [h1, h2]⟩
   ·exact ⟨_, _, h1⟩
  subst hnv
  obtain ⟨a', c', hnv'⟩ : ∃ a c, nv' = .slice a (names.length + 1) c := by
   obtain ⟨_, ⟨h1, h2⟩ | ⟨q, cap, cur, h1, _⟩⟩ := hown
   ·omega
   ·exact ⟨_, _, h1⟩
  subst hnv'
  obtain ⟨k, hk⟩ : ∃ k, names.length = k := ⟨_, rfl⟩
  rw [hk] at HI c1 e2 hrun hl HPS HKP ⊢
  clear hp hc hcl hpb hown hgr hnew hcg hbb hnb hpush hkp hgg hi hz0 hz1 hz2 hk
  go_enter Tryd.func47, Tryd.ntmps47
  go_wp2_with (first
   | (go_at_call 59; refine HI.out.mono fun e w1 ⟨he, hw⟩ => ?_; subst hw; rw [if_neg (by decide)] at he; subst he)
   | (at_builtin; refine wpList_append_run rfl _ _ _ rfl _ _ _ rfl rfl hrun ?_))
  go_ret
  exact ⟨rfl, HPS.out, HKP.out⟩
end Go.Proofs.YtihdnlpelfgklaaDoor
namespace Go.Proofs.YtihdnlpelfgklaaDoor
open Go.RowKit
namespace Mt
def upX (v : Nat) (i : Ins) : Ins := { i with x := v }
def upY (v : Nat) (i : Ins) : Ins := { i with y := v }
def up (j v : Nat) (i : Ins) : Ins := if j = 1 then upX v i else upY v i
end Mt
theorem modify_len {α : Type} (l : List α) (k : Nat) (f : α → α) : (l.modify k f).length = l.length := List.length_modify ..
theorem flat_set (k : Nat) (hk : 0 < k) : ∀ (uss : List (List Value)) (i j : Nat) (v : Value), (∀ u ∈ uss, u.length = k) → i < uss.length → j < k → uss.flatten.set (i * k + j) v = (uss.modify i fun u => u.set j v).flatten
 | [], i, j, v, _, h, _ => by simp at h
 | u :: us, i, j, v, hu, h, hj => by
  have h0 : u.length = k := hu u (by simp)
  cases i with
  | zero =>
   rw [List.flatten_cons, Nat.zero_mul, Nat.zero_add, List.set_append_left _ _ (by omega)]
   simp [List.modify]
  | succ i =>
   rw [List.flatten_cons, List.set_append_right _ _ (by rw [h0, Nat.succ_mul]; omega), h0, show (i + 1) * k + j - k = i * k + j by rw [Nat.succ_mul]; omega, flat_set k hk us i j v (fun x hx => hu x (List.mem_cons_of_mem _ hx)) (by simpa using h) hj]
   simp [List.modify]
structure PutF (w0 : World) (s : List UInt8) (g : Nat) (F : Nat → Prop) (code : List Mt.Ins) (names : List (List UInt8)) (lp k j q cap : Nat) (W : World) : Prop where
 c0 : W.cell? ⟨g, 0, none⟩ = some (.slice (some ⟨q, 0, none⟩) code.length cap)
 cell : ∃ n : Nat, W.cell? ⟨q, k * 4 + j, none⟩ = some (.int .i64 (n : Int))
 soft : W.frozen? ⟨q, k * 4 + j, none⟩ = false
 done : ∀ v : Nat, PgS w0 s g F (code.modify k (Mt.up j v)) names lp (W.drew.setCell ⟨q, k * 4 + j, none⟩ (.int .i64 (v : Int))) ∧ GoF F F W (W.drew.setCell ⟨q, k * 4 + j, none⟩ (.int .i64 (v : Int)))
theorem PgS.put {w0 : World} {s : List UInt8} {g : Nat} {F : Nat → Prop} {code : List Mt.Ins} {names : List (List UInt8)} {lp : Nat} {W : World} (h : PgS w0 s g F code names lp W) {k : Nat} (hk : k < code.length) (j : Nat) (hj : j = 1 ∨ j = 2) : ∃ q cap, PutF w0 s g F code names lp k j q cap W := by
 obtain ⟨cv, nv, uss, h⟩ := h
 have h4 := h.uss4
 obtain ⟨hlen, ⟨h1, h2⟩ | ⟨q, cap, cur, hcv, _, hg, hnc, hcm, hcs, htk⟩⟩ := h.crow
 ·omega
 subst hcv
 have hku : k < uss.length := by rw [h.len]; exact hk
 obtain ⟨ra, rc, hus, hrg⟩ := h.ins k hk hku
 have hj4 : j < 4 := by omega
 have hidx : k * 4 + j < code.length * 4 := by omega
 have hcur : cur[k * 4 + j]? = uss[k][j]? := by
  have e := flat_at 4 uss h4 k j hku hj4
  rw [← htk, List.getElem?_take_of_lt hidx] at e
  simpa using e
 have hsz : k * 4 + j < cur.size := by rw [hcs]; omega
 have hout := (h.cout q rfl)
 refine ⟨q, cap, by rw [h.c0], ?_, by unfold World.frozen?; rw [hg]; simp, fun v => ⟨⟨.slice (some ⟨q, 0, none⟩) code.length cap, nv, uss.modify k fun u => u.set j (.int .i64 (v : Int)), ?_⟩, ?_⟩⟩
 ·rw [Lib.cell_of_heap hg, hcur, hus]
  rcases hj with rfl | rfl
  ·exact ⟨_, rfl⟩
  ·exact ⟨_, rfl⟩
 ·have hother : ∀ b, b ≠ q → (W.drew.setCell ⟨q, k * 4 + j, none⟩ (.int .i64 (v : Int))).heap[b]? = W.heap[b]? := fun b hb => Deep.blk_setCell_other W.drew ⟨q, k * 4 + j, none⟩ (.int .i64 (v : Int)) b hb
  refine { head := ?_, len := ?_, ins := fun a ha ha' => ?_, crow := ?_, nrow := ?_, cout := ?_, nout := h.nout, out := h.out, bnd := ?_ }
  ·rw [hother g (fun e => hout.2.1 e.symm)]
   exact h.head
  ·rw [modify_len, modify_len, h.len]
  ·rw [modify_len] at ha ha'
   rw [List.getElem_modify, List.getElem_modify]
   by_cases e : k = a
   ·subst e
    rw [if_pos rfl, if_pos rfl, hus]
    refine ⟨ra, rc, ?_, ?_⟩
    ·rcases hj with rfl | rfl
     ·rfl
     ·rfl
    ·rcases hj with rfl | rfl
     ·exact hrg
     ·exact hrg
   ·rw [if_neg e, if_neg e]
    exact h.ins a ha ha'
  ·refine ⟨?_, .inr ⟨q, cap, cur.setIfInBounds (k * 4 + j) (.int .i64 (v : Int)), by rw [modify_len], Nat.zero_le _, set_at (w := W.drew) hg _ _, by rw [modify_len]; exact hnc, hcm, by simp [hcs], ?_⟩⟩
   ·rw [← flat_set 4 (by decide) uss k j _ h4 hku hj4, List.length_set, modify_len]
    exact hlen
   ·rw [← flat_set 4 (by decide) uss k j _ h4 hku hj4, ← htk, modify_len]
    apply List.ext_getElem?
    intro a
    rw [List.getElem?_set]
    by_cases ha : a < code.length * 4
    ·rw [List.getElem?_take_of_lt ha]
     by_cases e : k * 4 + j = a
     ·subst e
      simp [hsz]
      rw [← hcs] at *
      omega
     ·rw [if_neg e, List.getElem?_take_of_lt ha]
      simp [e]
    ·rw [List.getElem?_eq_none (by simp; omega)]
     rw [if_neg (by omega), List.getElem?_eq_none (by simp; omega)]
  ·refine own_block h.nrow fun b hb => hother b fun e => ?_
   subst e
   exact hout.2.2 hb
  ·intro b hb
   exact h.cout b hb
  ·intro b hb
   rw [Deep.nblk_setCell]
   exact h.bnd b hb
 ·exact ⟨Kp.set (F := F) (w := W) (w' := W.drew) ⟨rfl, rfl, rfl, Nat.le_refl _, fun _ _ _ => rfl⟩ q _ _ (fun _ => hout.1), fun _ h => h⟩
end Go.Proofs.YtihdnlpelfgklaaDoor
namespace Go.Proofs.YtihdnlpelfgklaaDoor.Mt
def endsA : List NT → Nat → List Nm → List Nat
 | [], _, _ => []
 | [_], _, _ => []
 | k :: k2 :: ks, b, ns => (b + 1 + (compN k (b + 1) ns).1.length) :: endsA (k2 :: ks) (b + 1 + (compN k (b + 1) ns).1.length + 1) (compN k (b + 1) ns).2
theorem endsA_two (k k2 : NT) (ks : List NT) (b : Nat) (ns : List Nm) : endsA (k :: k2 :: ks) b ns = (b + 1 + (compN k (b + 1) ns).1.length) :: endsA (k2 :: ks) (b + 1 + (compN k (b + 1) ns).1.length + 1) (compN k (b + 1) ns).2 := by
 rw [endsA]
def setAll (f : Ins → Ins) (c : List Ins) (ps : List Nat) : List Ins := ps.foldl (fun c p => c.modify p f) c
theorem setAll_nil (f : Ins → Ins) (c : List Ins) : setAll f c [] = c := rfl
theorem setAll_cons (f : Ins → Ins) (c : List Ins) (p : Nat) (ps : List Nat) : setAll f c (p :: ps) = setAll f (c.modify p f) ps := rfl
theorem setAll_len (f : Ins → Ins) (ps : List Nat) : ∀ c : List Ins, (setAll f c ps).length = c.length := by
 induction ps with
 | nil => intro c; rfl
 | cons p ps ih => intro c; rw [setAll_cons, ih, modify_len]
theorem modify_mid (f : Ins → Ins) (pre : List Ins) (i : Ins) (post : List Ins) (p : Nat) (hp : p = pre.length) : (pre ++ i :: post).modify p f = pre ++ f i :: post := by
 subst hp
 induction pre with
 | nil => rfl
 | cons a l ih => simp only [List.cons_append, List.length_cons, List.modify_succ_cons, ih]
theorem compA_ends (E : Nat) : ∀ (ks : List NT) (pre : List Ins) (ns : List Nm), setAll (upX E) (pre ++ (compA 0 ks pre.length ns).1) (endsA ks pre.length ns) = pre ++ (compA E ks pre.length ns).1
 | [], pre, ns => by rw [compA, compA, endsA, setAll_nil]
 | [k], pre, ns => by rw [compA, compA, endsA, setAll_nil]
 | k :: k2 :: ks, pre, ns => by
  rw [compA_two, compA_two, endsA_two, setAll_cons]
  obtain ⟨c, hc⟩ : ∃ c, compN k (pre.length + 1) ns = c := ⟨_, rfl⟩
  rw [hc]
  simp only [List.cons_append]
  have e1 : pre ++ (⟨1, pre.length + 1, pre.length + 1 + c.1.length + 1, []⟩ :: (c.1 ++ (⟨2, 0, 0, []⟩ :: (compA 0 (k2 :: ks) (pre.length + 1 + c.1.length + 1) c.2).1))) = (pre ++ ⟨1, pre.length + 1, pre.length + 1 + c.1.length + 1, []⟩ :: c.1) ++ (⟨2, 0, 0, []⟩ :: (compA 0 (k2 :: ks) (pre.length + 1 + c.1.length + 1) c.2).1) := by simp
  rw [e1, modify_mid (upX E) _ _ _ _ (by simp; omega)]
  have hl : ((pre ++ ⟨1, pre.length + 1, pre.length + 1 + c.1.length + 1, []⟩ :: c.1) ++ [(⟨2, E, 0, []⟩ : Ins)]).length = pre.length + 1 + c.1.length + 1 := by simp; omega
  have ih := compA_ends E (k2 :: ks) ((pre ++ ⟨1, pre.length + 1, pre.length + 1 + c.1.length + 1, []⟩ :: c.1) ++ [(⟨2, E, 0, []⟩ : Ins)]) c.2
  rw [hl] at ih
  have e2 : (pre ++ ⟨1, pre.length + 1, pre.length + 1 + c.1.length + 1, []⟩ :: c.1) ++ (upX E ⟨2, 0, 0, []⟩ :: (compA 0 (k2 :: ks) (pre.length + 1 + c.1.length + 1) c.2).1) = ((pre ++ ⟨1, pre.length + 1, pre.length + 1 + c.1.length + 1, []⟩ :: c.1) ++ [(⟨2, E, 0, []⟩ : Ins)]) ++ (compA 0 (k2 :: ks) (pre.length + 1 + c.1.length + 1) c.2).1 := by unfold upX; simp
  rw [e2, ih]
  simp
def endsO (f : Nat → List Nm → Cmp) : Nat → Nat → List Nm → List Nat
 | 0, _, _ => []
 | n + 1, b, ns => b :: endsO f n (b + 1 + (f (b + 1) ns).1.length) (f (b + 1) ns).2
theorem opts_ends (f : Nat → List Nm → Cmp) (E : Nat) : ∀ (n : Nat) (pre : List Ins) (ns : List Nm), setAll (upY E) (pre ++ (opts f 0 n pre.length ns).1) (endsO f n pre.length ns) = pre ++ (opts f E n pre.length ns).1
 | 0, pre, ns => by rw [opts, opts, endsO, setAll_nil]
 | n + 1, pre, ns => by
  rw [opts, opts, endsO, setAll_cons]
  obtain ⟨c, hc⟩ : ∃ c, f (pre.length + 1) ns = c := ⟨_, rfl⟩
  rw [hc]
  simp only [List.cons_append]
  rw [modify_mid (upY E) _ _ _ _ rfl]
  have hl : (pre ++ (⟨1, pre.length + 1, E, []⟩ : Ins) :: c.1).length = pre.length + 1 + c.1.length := by simp; omega
  have ih := opts_ends f E n (pre ++ (⟨1, pre.length + 1, E, []⟩ : Ins) :: c.1) c.2
  rw [hl] at ih
  have e2 : pre ++ upY E ⟨1, pre.length + 1, 0, []⟩ :: (c.1 ++ (opts f 0 n (pre.length + 1 + c.1.length) c.2).1) = (pre ++ (⟨1, pre.length + 1, E, []⟩ : Ins) :: c.1) ++ (opts f 0 n (pre.length + 1 + c.1.length) c.2).1 := by unfold upY; simp
  rw [e2, ih]
  simp
def Ok1 (op : Int) (n : Nat) (mn mx : Int) : Prop := (op = 3 → 2 ≤ n) ∧ (op = 5 → n = 1) ∧ (op = 4 → n = 1 ∧ 0 ≤ mn ∧ mn ≤ 40 ∧ (mx = -1 ∨ (mn ≤ mx ∧ mx ≤ 40)))
mutual
def okN : NT → Prop
 | .node op rs _ ks mn mx => Ok1 op ks.length mn mx ∧ okL ks ∧ (op = 1 → 0 < rs.length ∧ rs.length ≤ 1000000)
def okL : List NT → Prop
 | [] => True
 | k :: ks => okN k ∧ okL ks
end
theorem okL_mem {ks : List NT} (h : okL ks) : ∀ i (hi : i < ks.length), okN ks[i] := by
 induction ks with
 | nil => intro i hi; simp at hi
 | cons k ks ih =>
  rw [okL] at h
  intro i hi
  cases i with
  | zero => exact h.1
  | succ i => exact ih h.2 i (by simpa using hi)
theorem shE_ok {op : Int} {rs : List (UInt8 × UInt8)} {nm : List UInt8} {n : Nat} {mn mx : Int} (h : shE op rs nm n mn mx = 0) : Ok1 op n mn mx := by
 unfold shE at h
 split at h
 ·cases h
 ·next hs =>
  split at h
  ·cases h
  ·split at h
   ·cases h
   ·next h4 =>
    refine ⟨fun e => ?_, fun e => ?_, fun e => ?_⟩
    ·subst e
     rw [shp_3] at hs
     simp at hs
     exact hs.1
    ·subst e
     rw [shp_5] at hs
     simp at hs
     exact hs.1
    ·subst e
     rw [shp_4] at hs
     simp at hs
     refine ⟨hs.1, ?_⟩
     unfold badR at h4
     simp at h4
     omega
theorem srt_low {rs : List (UInt8 × UInt8)} (h : ∀ i (h : i < rs.length), okR rs i h) : ∀ i (hi : i < rs.length), 2 * i ≤ rs[i].1.toNat
 | 0, _ => Nat.zero_le _
 | i + 1, hi => by
  have h1 := srt_low h i (by omega)
  have h2 := h i (by omega)
  have h3 := (h (i + 1) hi).2 (by omega)
  have h4 := h2.1
  simp only [Nat.add_sub_cancel] at h3
  omega
theorem shE_rs {op : Int} {rs : List (UInt8 × UInt8)} {nm : List UInt8} {n : Nat} {mn mx : Int} (h : shE op rs nm n mn mx = 0) (ho : op = 1) : 0 < rs.length ∧ rs.length ≤ 1000000 := by
 subst ho
 unfold shE at h
 split at h
 ·cases h
 ·next hs =>
  rw [shp_1] at hs
  have hb : srtB rs = true := by
   cases hb : srtB rs with
   | true => rfl
   | false => rw [hb] at hs; simp at hs
  unfold srtB at hb
  have h2 := @of_decide_eq_true _ (Classical.propDecidable _) hb
  refine ⟨h2.1, ?_⟩
  have h3 := srt_low h2.2 (rs.length - 1) (by omega)
  have h4 := (rs[rs.length - 1]'(by omega)).1.toNat_lt
  omega
end Go.Proofs.YtihdnlpelfgklaaDoor.Mt

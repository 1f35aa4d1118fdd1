/-
 Joined: MtM, MtN, MtO, MtQ, MtR, MtS, MtT, MtU, MtCa, MtV, MtW, MtCb, MtCc, MtCd, MtX, MtY, MtWa.
-/
import Derived.Test.YtmpbjaodgajnfaaGreatDoorEhF
import Derived.BigRegion
import Derived.Lib.SliceRun
import Derived.Deep.OwnRows
import Derived.Deep.Heap
import Derived.Test.YtmpbjaodgajnfaaGreatDoorEhA
import Derived.Deep.RegionLaw
import Derived.OwnWalk
import Derived.StillTailTactics
namespace Go.Proofs.YtmpbjaodgajnfaaGreatDoor
open Go.RowKit
theorem wr64 {a : Int} (h : 0 ≤ a ∧ a ≤ 1000000000) : wrap64 a = a := by
 unfold wrap64
 omega
theorem words_i {M : Nat} (h : M ≤ 200010000) : wrap64 (wrap64 ((wrap64 (M : Int)).tdiv 64) + 1) = ((M / 64 + 1 : Nat) : Int) := by
 have h1 : 0 ≤ (M : Int) ∧ (M : Int) ≤ 1000000000 := by omega
 rw [wr64 h1, Int.tdiv_eq_ediv_of_nonneg h1.1]
 have h2 : 0 ≤ (M : Int) / 64 ∧ (M : Int) / 64 ≤ 1000000 * 1000 := by omega
 rw [wr64 h2, wr64 (by omega)]
 omega
theorem Kp.drewN {F : Nat → Prop} {w w' : World} (h : Kp F w w') (q : Nat) : Kp F w (w'.drewN q) := ⟨h.os, h.tape, h.output, h.size, h.block⟩
theorem Kp.set {F : Nat → Prop} {w w' : World} (h : Kp F w w') (b o : Nat) (v : Value) (hb : b < w.heap.size → ¬ F b) : Kp F w (w'.setCell ⟨b, o, none⟩ v) :=
 ⟨h.os, h.tape, h.output, by rw [Deep.nblk_setCell]; exact h.size, fun k hk hl => (Deep.blk_setCell_other w' _ v k (fun e => hb (by have : k = b := e; omega) (by have : k = b := e; rw [← this]; exact hk))).trans (h.block k hk hl)⟩
structure OrF (C : List Mt.Ins) (s : List UInt8) (L : Nat) (F : Nat → Prop) (fa b D P n V Q e : Nat) (W : World) : Prop where
 row : W.cell? ⟨fa, e, none⟩ = some (.slice (some ⟨b, 0, none⟩) n n)
 lt : D < n ∧ n ≤ 10000000
 cell : W.cell? ⟨b, D, none⟩ = some (.int .u64 (V : Int))
 soft : W.frozen? ⟨b, D, none⟩ = false
 bits : bits .or .u64 (V : Int) (P : Int) = (Q : Int)
 done : ∀ q q', FtB C s L F fa (((W.drewN q).setCell ⟨b, D, none⟩ (.int .u64 (Q : Int))).drewN q')
 out : ¬ F b
theorem FR.orf {C : List Mt.Ins} {s : List UInt8} {L : Nat} {F : Nat → Prop} {fa : Nat} {row : Nat → Option (Nat × List Nat)} {W : World} (h : FR C s L F fa row W) {pc at_ e b : Nat} {vs : List Nat} (he : e ≤ L) (hr : row e = some (b, vs)) (hl : s.length ≤ 20000) (hC : C.length ≤ 10000) (hp : pc < C.length) (ha : at_ ≤ s.length) (hway : Mt.Way C s L pc at_ e none) :
  ∃ n V Q, OrF C s L F fa b (Mt.stI s.length pc at_ / 64) (2 ^ (Mt.stI s.length pc at_ % 64)) n V Q e W := by
 obtain ⟨g1, g2, g3, g4, g5, g6⟩ := h.words e b vs hr he
 have hw := Mt.stI_word (n := s.length) hp ha
 rw [← g2] at hw
 have hm : C.length * (s.length + 1) ≤ 200010000 := Nat.mul_le_mul hC (show s.length + 1 ≤ 20001 by omega)
 have hpl : 2 ^ (Mt.stI s.length pc at_ % 64) < 2 ^ 64 := Nat.pow_lt_pow_right (by decide) (Nat.mod_lt _ (by decide))
 have hrow := h.at he
 rw [hr] at hrow
 refine ⟨vs.length, vs[Mt.stI s.length pc at_ / 64], _, hrow, ⟨hw, by omega⟩, h.word he hr hw, ?_, u64_or_nat _ _ (g5 _ (List.getElem_mem hw)) hpl, fun q q' => ⟨_, h.or he hr ha (List.getElem?_eq_getElem hw) hway ?_ (fun k hk => ?_) ?_⟩, g3⟩
 ·unfold World.frozen?
  rw [g1]
  simp
 ·exact Deep.nblk_setCell _ _ _
 ·exact Deep.blk_setCell_other _ _ _ k hk
 ·exact set_at (w := W.drewN q) g1 _ _
set_option maxHeartbeats 4000000 in
set_option maxRecDepth 1000000 in
theorem mfail_any (C : List Mt.Ins) (s : List UInt8) (L : Nat) (F : Nat → Prop) (g fa : Nat) (ca : Option Addr) (cc : Nat) (row : Nat → Option (Nat × List Nat)) (pc at_ e : Nat) (w : World) (hs : MStr w g s) (hn : MNo w g fa L) (hc : w.cell? ⟨g, 0, none⟩ = some (.slice ca C.length cc)) (hg : F g) (hf : FR C s L F fa row w) (hl : s.length ≤ 20000) (hC : C.length ≤ 10000) (hp : pc < C.length) (ha : at_ ≤ s.length) (he : e ≤ L) (hway : Mt.Way C s L pc at_ e none) :
  Calls Tryz.prog 139 #[.pointer (some ⟨g, 0, none⟩), .int .i64 (pc : Int), .int .i64 (at_ : Int), .int .i64 (e : Int)] w fun ev w' => ev = .returned (.tuple #[]) ∧ FtB C s L F fa w' ∧ Kp F w w' := by
 have hst : ∀ W, MStr W g s → Calls Tryz.prog 159 #[.pointer (some ⟨g, 0, none⟩), .int .i64 (pc : Int), .int .i64 (at_ : Int)] W fun e w' => e = .returned (.tuple #[.int .i64 ((Mt.stI s.length pc at_ / 64 : Nat) : Int), .int .u64 ((2 ^ (Mt.stI s.length pc at_ % 64) : Nat) : Int)]) ∧ ∃ q, w' = W.drewN q := fun W h => state_any g pc at_ s W h hl (by omega) (by omega)
 have hor : ∀ row W b vs, FR C s L F fa row W → row e = some (b, vs) → ∃ n V Q, OrF C s L F fa b (Mt.stI s.length pc at_ / 64) (2 ^ (Mt.stI s.length pc at_ % 64)) n V Q e W := fun row W b vs h hr => h.orf he hr hl hC hp ha hway
 obtain ⟨D, hD⟩ : ∃ D, Mt.stI s.length pc at_ / 64 = D := ⟨_, rfl⟩
 obtain ⟨P, hP⟩ : ∃ P, 2 ^ (Mt.stI s.length pc at_ % 64) = P := ⟨_, rfl⟩
 rw [hD, hP] at hst hor
 have HST := Lib.hid hst
 have HOR := Lib.hid hor
 clear hst hor hD hP hway
 have hrow := hf.at he
 unfold MNo at hn
 cases hr : row e with
 | none =>
  rw [hr] at hrow
  unfold rowV at hrow
  simp only at hrow
  unfold MStr at hs
  have heq := Lib.run_eql_slice_nil (P := Tryz.prog) w 223 220 none 0 0 0 0 Tryz.underlying223
  have hm : C.length * (s.length + 1) ≤ 200010000 := Nat.mul_le_mul hC (show s.length + 1 ≤ 20001 by omega)
  obtain ⟨M, hM⟩ : ∃ M, C.length * (s.length + 1) = M := ⟨_, rfl⟩
  have hX : wrap64 (wrap64 ((wrap64 ((C.length : Int) * ((s.length : Int) + 1))).tdiv 64) + 1) = ((M / 64 + 1 : Nat) : Int) := by
   have e : (C.length : Int) * ((s.length : Int) + 1) = (M : Int) := by rw [← hM]; push_cast; rfl
   rw [hM] at hm
   rw [e]
   exact words_i hm
  obtain ⟨n, hn2⟩ : ∃ n, M / 64 + 1 = n := ⟨_, rfl⟩
  rw [hn2] at hX
  rw [hM] at hm
  have hn3 : n ≤ 10000000 := by omega
  obtain ⟨Wa, hWa⟩ : ∃ Wa, w.drew.alloc (.cells (madeCells #[Value.int .u64 0] n) 220) = Wa := ⟨_, rfl⟩
  have hmk : (Instr.makeSlice 223 (.int .i64 (wrap64 (wrap64 ((wrap64 ((C.length : Int) * ((s.length : Int) + 1))).tdiv 64) + 1))) (.int .i64 (wrap64 (wrap64 ((wrap64 ((C.length : Int) * ((s.length : Int) + 1))).tdiv 64) + 1)))).run Tryz.prog w.drew = .ok (.slice (some ⟨w.heap.size, 0, none⟩) n n) Wa := by
   rw [hX, ← hWa]
   exact run_make_row' (P := Tryz.prog) 223 220 (.int .u64 0) 8 Tryz.underlying223 (by kernel_rfl) rfl .i64 .i64 n (by omega) (by omega) w.drew
  have hlt : ∀ b, b < w.heap.size → Wa.heap[b]? = w.heap[b]? := fun b hb => by
   rw [← hWa]
   exact ((Below.refl w.heap.size w.drew).alloc (Nat.le_refl _) _).block b hb
  have hgl : g < w.heap.size := World.block_lt_of_cell? w _ hn
  have hfl : fa < w.heap.size := heap_lt hf.head
  have hb4 : Wa.cell? ⟨g, 4, none⟩ = _ := (World.cell?_of_block (w := w) (w' := Wa) (a := ⟨g, 4, none⟩) (hlt g hgl)).trans hn
  have hbe : Wa.cell? ⟨fa, e, none⟩ = _ := (World.cell?_of_block (w := w) (w' := Wa) (a := ⟨fa, e, none⟩) (hlt fa hfl)).trans hrow
  have hz : Wa.frozen? ⟨fa, e, none⟩ = false := by
   unfold World.frozen?
   rw [hlt fa hfl, hf.head]
   simp
  have hfg : fa ≠ g := fun x => hf.out (x ▸ hg)
  obtain ⟨W2, hW2⟩ : ∃ W2, Wa.setCell ⟨fa, e, none⟩ (.slice (some ⟨w.heap.size, 0, none⟩) n n) = W2 := ⟨_, rfl⟩
  have hsz : Wa.heap.size = w.heap.size + 1 := by rw [← hWa]; simp [World.alloc, -World.alloc_eq]
  have hold : ∀ k, k < w.heap.size → k ≠ fa → W2.heap[k]? = w.heap[k]? := fun k hk hne => by
   rw [← hW2, Deep.blk_setCell_other _ _ _ k hne]
   exact hlt k hk
  have hfr : FR C s L F fa _ W2 := hf.new (e := e) (n := n) (by rw [hM, hn2]) (by rw [← hW2, Deep.nblk_setCell, hsz]) hold (by rw [← hW2]; exact set_at ((hlt fa hfl).trans hf.head) e _) (by
   rw [← hW2, Deep.blk_setCell_other _ _ _ _ (show w.heap.size ≠ fa by omega), ← hWa]
   exact Deep.blk_alloc_new w.drew _)
  obtain ⟨n', V, Q, HO⟩ := HOR.out _ W2 w.heap.size (List.replicate n 0) hfr (if_pos rfl)
  have hK : Kp F w W2 := by
   rw [← hW2]
   refine Kp.set ⟨?_, ?_, ?_, by omega, fun b _ hb => hlt b hb⟩ fa e _ (fun _ => hf.out) <;> (rw [← hWa]; rfl)
  have hs2 : MStr W2 g s := (World.cell?_of_block (w := w) (w' := W2) (a := ⟨g, 3, none⟩) (hold g hgl (fun x => hfg x.symm))).trans hs
  have hn4 : W2.cell? ⟨g, 4, none⟩ = _ := (World.cell?_of_block (w := w) (w' := W2) (a := ⟨g, 4, none⟩) (hold g hgl (fun x => hfg x.symm))).trans hn
  have HK := Lib.hid hK
  have HS2 := Lib.hid hs2
  have HD := Lib.hid HO.done
  have ho1 := HO.row
  have ho2 := HO.lt
  have ho3 := HO.cell
  have ho4 := HO.soft
  have ho5 := HO.bits
  have HG : Hid (¬ F w.heap.size) := Lib.hid (fun h => by have := hf.bnd _ h; omega)
  have hW2' := Lib.hid hW2
  clear hW2
  clear hr hf hm hn2 hM hX hK hs2 HO hfr HOR
  go_enter Tryz.func139, Tryz.ntmps139
  go_wp2_with fail
  go_region
  have hW2 : Wa.setCell ⟨fa, e, none⟩ (.slice (some ⟨w.heap.size, 0, none⟩) n n) = W2 := hW2'.out
  rw [hW2]
  go_wp2_with (go_at_call 159; refine (HST.out _ HS2.out).mono fun ev w1 ⟨hev, q, hw1⟩ => ?_; subst hev hw1)
  go_end0
  exact ⟨rfl, HD.out q 0, (HK.out.drewN q).set _ _ _ (fun _ => HG.out)⟩
 | some x =>
  obtain ⟨b, vs⟩ := x
  obtain ⟨n, V, Q, HO⟩ := HOR.out _ w b vs hf hr
  have HS2 := Lib.hid hs
  have HD := Lib.hid HO.done
  have ho1 := HO.row
  have ho2 := HO.lt
  have ho3 := HO.cell
  have ho4 := HO.soft
  have ho5 := HO.bits
  have HG := Lib.hid HO.out
  have HK : Hid (Kp F w w) := Lib.hid ⟨rfl, rfl, rfl, Nat.le_refl _, fun _ _ _ => rfl⟩
  have heq := Lib.run_eql_slice_nil (P := Tryz.prog) w 223 220 (some ⟨b, 0, none⟩) n n 0 0 Tryz.underlying223
  clear hr hf hrow HO hs HOR
  go_enter Tryz.func139, Tryz.ntmps139
  go_wp2_with (go_at_call 159; refine (HST.out _ HS2.out).mono fun ev w1 ⟨hev, q, hw1⟩ => ?_; subst hev hw1)
  go_end0
  exact ⟨rfl, HD.out q 0, (HK.out.drewN q).set _ _ _ (fun _ => HG.out)⟩
end Go.Proofs.YtmpbjaodgajnfaaGreatDoor
namespace Go.Proofs.YtmpbjaodgajnfaaGreatDoor
open Go.RowKit
theorem le8 (a b : UInt8) : decide (a ≤ b) = decide ((a.toNat : Int) ≤ (b.toNat : Int)) := by
 rw [decide_eq_decide, UInt8.le_iff_toNat_le]
 omega
def inB (x : UInt8 × UInt8) (c : UInt8) : Bool := decide (x.1 ≤ c) && decide (c ≤ x.2)
set_option maxHeartbeats 4000000 in
set_option maxRecDepth 1000000 in
theorem has1_any (x : UInt8 × UInt8) (c : UInt8) (p : Nat) (w : World) (hp : p < w.heap.size) (hc : w.cell? ⟨p, 0, none⟩ = some (.int .u8 (c.toNat : Int))) :
  Calls Tryz.prog 161 #[.agg #[.int .u8 (x.1.toNat : Int), .int .u8 (x.2.toNat : Int)], .pointer (some ⟨p, 0, none⟩)] w fun e w' => e = .returned (.bool (inB x c)) ∧ Below w.heap.size w w' := by
 have hb : inB x c = (decide ((x.1.toNat : Int) ≤ (c.toNat : Int)) && decide ((c.toNat : Int) ≤ (x.2.toNat : Int))) := by unfold inB; rw [le8, le8]
 rw [hb]
 have HB := Lib.hid (fun o => (Below.refl w.heap.size w).alloc (Nat.le_refl _) o)
 have h1 := x.1.toNat_lt
 have h2 := x.2.toNat_lt
 have h3 := c.toNat_lt
 obtain ⟨a, ha⟩ : ∃ a, x.1.toNat = a := ⟨_, rfl⟩
 obtain ⟨b, hb'⟩ : ∃ b, x.2.toNat = b := ⟨_, rfl⟩
 obtain ⟨d, hd⟩ : ∃ d, c.toNat = d := ⟨_, rfl⟩
 rw [ha] at h1 ⊢
 rw [hb'] at h2 ⊢
 rw [hd] at h3 hc ⊢
 clear hb ha hb' hd
 by_cases g1 : a ≤ d
 ·by_cases g2 : d ≤ b
  ·rw [show (decide ((a : Int) ≤ (d : Int)) && decide ((d : Int) ≤ (b : Int))) = true by rw [decide_eq_true (by omega), decide_eq_true (by omega)]; rfl]
   go_enter Tryz.func161, Tryz.ntmps161
   go_wp2_with fail
   go_ret
   exact ⟨rfl, HB.out _⟩
  ·rw [show (decide ((a : Int) ≤ (d : Int)) && decide ((d : Int) ≤ (b : Int))) = false by rw [decide_eq_false (p := (d : Int) ≤ (b : Int)) (by omega), Bool.and_false]]
   go_enter Tryz.func161, Tryz.ntmps161
   go_wp2_with fail
   go_ret
   exact ⟨rfl, HB.out _⟩
 ·rw [show (decide ((a : Int) ≤ (d : Int)) && decide ((d : Int) ≤ (b : Int))) = false by rw [decide_eq_false (p := (a : Int) ≤ (d : Int)) (by omega), Bool.false_and]]
  go_enter Tryz.func161, Tryz.ntmps161
  go_wp2_with fail
  go_ret
  exact ⟨rfl, HB.out _⟩
set_option maxHeartbeats 4000000 in
set_option maxRecDepth 1000000 in
theorem idxf_any (rs : List (UInt8 × UInt8)) (v : Value) (c : UInt8) (p : Nat) (w : World) (h : RgAt w rs v) (hp : p < w.heap.size) (hc : w.cell? ⟨p, 0, none⟩ = some (.int .u8 (c.toNat : Int))) :
  Calls Tryz.prog 174 #[v, .func (.func 161) #[] #[.pointer (some ⟨p, 0, none⟩)]] w fun e w' => (∃ k : Int, e = .returned (.int .i64 k) ∧ decide (0 ≤ k) = rs.any fun x => inB x c) ∧ Below w.heap.size w w' := by
 obtain ⟨a, cp, rfl, hm, hk⟩ := h
 have HK := Lib.hid hk
 have HC := Lib.hid hc
 have H1 : Hid (∀ x W, Below w.heap.size w W → Calls Tryz.prog 161 #[.agg #[.int .u8 (x.1.toNat : Int), .int .u8 (x.2.toNat : Int)], .pointer (some ⟨p, 0, none⟩)] W fun e w' => e = .returned (.bool (inB x c)) ∧ Below w.heap.size w w') :=
  Lib.hid fun x W hW => (has1_any x c p W (Nat.lt_of_lt_of_le hp hW.size) ((hW.cell (p := ⟨p, 0, none⟩) hp).trans hc)).mono fun e w' ⟨he, hb⟩ => ⟨he, hW.trans (hb.mono hW.size)⟩
 clear hk hc
 go_enter Tryz.func174, Tryz.ntmps174
 go_wp2_with fail
 go_loopw [8] (fun i wr => ∃ k : Nat, i = .int .i64 k ∧ k ≤ rs.length ∧ Hid (rs.any (fun x => inB x c) = (rs.drop k).any fun x => inB x c) ∧ Below w.heap.size w wr) (fun i _ => rs.length - (intOf i).toNat)
 case atStart => exact ⟨0, rfl, by omega, Lib.hid (by rw [List.drop_zero]), Below.refl _ _⟩
 case round =>
  obtain ⟨k, rfl, hkl, hok, hb⟩ := hrel
  have HB := Lib.hid hb
  by_cases hlt : k < rs.length
  ·obtain ⟨blk, off, rfl, hl, c0, c1⟩ := HK.out k hlt
   have e0 := (hb.cell (p := ⟨blk, off + k * 2, none⟩) hl).trans c0
   have e1 := (hb.cell (p := ⟨blk, off + k * 2 + 1, none⟩) hl).trans c1
   have i1 : (k : Int) < (rs.length : Int) := by omega
   have hlw : blk < wr.heap.size := Nat.lt_of_lt_of_le hl hb.size
   have H2 := Lib.hid (H1.out rs[k] wr hb)
   have hdrop : rs.drop k = rs[k] :: rs.drop (k + 1) := List.drop_eq_getElem_cons hlt
   have HO := Lib.hid (hok.out.trans (by rw [hdrop, List.any_cons]))
   clear hok hdrop c0 c1 hb
   obtain ⟨x, hx⟩ : ∃ x, rs[k] = x := ⟨_, rfl⟩
   rw [hx] at e0 e1 H2 HO
   clear hx
   go_wp2_with fail
   refine H2.out.mono ?_
   rintro e w2 ⟨rfl, hb2⟩
   have HB2 := Lib.hid hb2
   clear hb2
   cases hi : inB x c with
   | true =>
    go_wp2_with fail
    go_ret
    exact ⟨⟨(k : Int), rfl, by rw [HO.out, hi, Bool.true_or]; exact decide_eq_true (by omega)⟩, HB2.out⟩
   | false =>
    go_wp2_with fail
    go_roundw
    case rel => exact ⟨k + 1, by go_num, by omega, Lib.hid (by rw [HO.out, hi, Bool.false_or]), HB2.out⟩
    case measure => simp [intOf]; omega
  ·go_wp2_with fail
   go_ret
   exact ⟨⟨-1, rfl, by rw [hok.out, List.drop_eq_nil_of_le (by omega)]; rfl⟩, hb⟩
set_option maxHeartbeats 4000000 in
set_option maxRecDepth 1000000 in
theorem conf_any (rs : List (UInt8 × UInt8)) (v : Value) (c : UInt8) (p : Nat) (w : World) (h : RgAt w rs v) (hp : p < w.heap.size) (hc : w.cell? ⟨p, 0, none⟩ = some (.int .u8 (c.toNat : Int))) :
  Calls Tryz.prog 160 #[v, .func (.func 161) #[] #[.pointer (some ⟨p, 0, none⟩)]] w fun e w' => e = .returned (.bool (rs.any fun x => inB x c)) ∧ Below w.heap.size w w' := by
 have H := Lib.hid (idxf_any rs v c p w h hp hc)
 clear h hc
 go_enter Tryz.func160, Tryz.ntmps160
 go_wp2_with (go_at_call 174; refine H.out.mono ?_; rintro e w2 ⟨⟨k, rfl, hk⟩, hb⟩; have HK := Lib.hid hk; have HB := Lib.hid hb; clear hk hb)
 go_ret
 exact ⟨ret_bool HK.out, HB.out⟩
theorem any_hasR (rs : List (UInt8 × UInt8)) (c : UInt8) : (rs.any fun x => inB x c) = Mt.hasR rs c := rfl
set_option maxHeartbeats 4000000 in
set_option maxRecDepth 1000000 in
theorem has_any (rs : List (UInt8 × UInt8)) (v : Value) (c : UInt8) (w : World) (h : RgAt w rs v) :
  Calls Tryz.prog 138 #[v, .int .u8 (c.toNat : Int)] w fun e w' => e = .returned (.bool (Mt.hasR rs c)) ∧ Below w.heap.size w w' := by
 have H : Hid (∀ W, Below w.heap.size w W → w.heap.size < W.heap.size → W.cell? ⟨w.heap.size, 0, none⟩ = some (.int .u8 (c.toNat : Int)) → Calls Tryz.prog 160 #[v, .func (.func 161) #[] #[.pointer (some ⟨w.heap.size, 0, none⟩)]] W fun e w' => e = .returned (.bool (Mt.hasR rs c)) ∧ Below w.heap.size w w') :=
  Lib.hid fun W hW hl hc => (conf_any rs v c w.heap.size W (h.later hW) hl hc).mono fun e w' ⟨he, hb⟩ => ⟨by rw [he, any_hasR], hW.trans (hb.mono hW.size)⟩
 have HB := Lib.hid (fun o => (Below.refl w.heap.size w).alloc (Nat.le_refl _) o)
 clear h
 obtain ⟨d, hd⟩ : ∃ d : Int, (c.toNat : Int) = d := ⟨_, rfl⟩
 rw [hd] at H ⊢
 clear hd
 obtain ⟨W, hW⟩ : ∃ W, w.alloc (.cells #[.int .u8 d] 5) = W := ⟨_, rfl⟩
 have H2 := Lib.hid (H.out W (by rw [← hW]; exact HB.out _) (by rw [← hW]; simp [World.alloc, -World.alloc_eq]) (by rw [← hW, Lib.cell_of_heap (Deep.blk_alloc_new w _)]; rfl))
 go_enter Tryz.func138, Tryz.ntmps138
 go_wp2_with fail
 refine H2.out.mono ?_
 rintro e w2 ⟨rfl, hb2⟩
 have HB2 := Lib.hid hb2
 clear hb2
 go_wp2_with fail
 go_ret
 exact ⟨rfl, HB2.out⟩
end Go.Proofs.YtmpbjaodgajnfaaGreatDoor
namespace Go.Proofs.YtmpbjaodgajnfaaGreatDoor
open Go.RowKit
namespace Mt
section
variable (C : List Ins) (s : List UInt8) (L : Nat)
def leastF (N pc at_ e : Nat) : Nat := ((List.range (N + 1)).findIdx? fun n => (runF C s L n pc at_ e).isSome).getD (N + 1)
theorem least_le {N n pc at_ e : Nat} {r : Res} (hn : n ≤ N) (h : runF C s L n pc at_ e = some r) : leastF C s L N pc at_ e ≤ n ∧ runF C s L (leastF C s L N pc at_ e) pc at_ e = some r := by
 have hx : ∃ m, (List.range (N + 1)).findIdx? (fun n => (runF C s L n pc at_ e).isSome) = some m := by
  cases hf : (List.range (N + 1)).findIdx? fun n => (runF C s L n pc at_ e).isSome with
  | some m => exact ⟨m, rfl⟩
  | none =>
   rw [List.findIdx?_eq_none_iff] at hf
   have := hf n (by rw [List.mem_range]; omega)
   rw [h] at this
   cases this
 obtain ⟨m, hm⟩ := hx
 have hl : leastF C s L N pc at_ e = m := by unfold leastF; rw [hm]; rfl
 rw [hl]
 rw [List.findIdx?_eq_some_iff_getElem] at hm
 obtain ⟨h1, h2, h3⟩ := hm
 simp only [List.getElem_range, List.length_range] at h1 h2 h3
 have hle : m ≤ n := by
  rcases Nat.lt_or_ge n m with c | c
  ·have := h3 n c
   rw [h] at this
   simp at this
  ·exact c
 refine ⟨hle, ?_⟩
 cases hr : runF C s L m pc at_ e with
 | none => rw [hr] at h2; cases h2
 | some q =>
  have := runF_le C s L hle hr
  rw [h] at this
  injection this with this
  rw [this]
end
def behind (r : Res) (ex : List Mk) : Res := r.map fun x => (x.1, x.2 ++ ex)
theorem behind_nil (r : Res) : behind r [] = r := by cases r with | none => rfl | some x => unfold behind; simp
theorem behind_add (r : Res) (m : Mk) (ex : List Mk) : behind (addM m r) ex = behind r (m :: ex) := by cases r with | none => rfl | some x => unfold behind addM; simp
end Mt
def Fg (F : Nat → Prop) (w w' : World) (b : Nat) : Prop := F b ∨ (w.heap.size ≤ b ∧ b < w'.heap.size)
structure GoF (F F' : Nat → Prop) (w w' : World) : Prop where
 kp : Kp F w w'
 mono : ∀ b, F b → F' b
theorem GoF.stay {F F' : Nat → Prop} {w w' : World} (h : GoF F F' w w') : Stay F F' w w' := ⟨h.kp.size, fun k hk hl => ⟨h.mono k hk, h.kp.block k hk hl⟩⟩
theorem GoF.refl (F : Nat → Prop) (w : World) : GoF F F w w := ⟨⟨rfl, rfl, rfl, Nat.le_refl _, fun _ _ _ => rfl⟩, fun _ h => h⟩
theorem GoF.trans {F0 F1 F2 : Nat → Prop} {w0 w1 w2 : World} (h : GoF F0 F1 w0 w1) (k : GoF F1 F2 w1 w2) : GoF F0 F2 w0 w2 :=
 ⟨⟨k.kp.os.trans h.kp.os, k.kp.tape.trans h.kp.tape, k.kp.output.trans h.kp.output, Nat.le_trans h.kp.size k.kp.size, fun b hb hl => (k.kp.block b (h.mono b hb) (Nat.lt_of_lt_of_le hl h.kp.size)).trans (h.kp.block b hb hl)⟩, fun b hb => k.mono b (h.mono b hb)⟩
theorem GoF.below {F : Nat → Prop} {w w' : World} (h : Below w.heap.size w w') : GoF F (Fg F w w') w w' := ⟨⟨h.os, h.tape, h.output, h.size, fun b _ hl => h.block b hl⟩, fun _ h => .inl h⟩
theorem FtB.below {C : List Mt.Ins} {s : List UInt8} {L : Nat} {F : Nat → Prop} {fa : Nat} {w w' : World} (hf : FtB C s L F fa w) (h : Below w.heap.size w w') : FtB C s L (Fg F w w') fa w' := by
 have hb : ∀ b, F b → b < w.heap.size := by obtain ⟨row, hf⟩ := hf; exact hf.bnd
 refine hf.keep (fun b hl => h.block b hl) (fun b hF => ?_)
 rcases hF with hF | hF
 ·exact ⟨Nat.lt_of_lt_of_le (hb b hF) h.size, fun _ => hF⟩
 ·exact ⟨hF.2, fun hl => absurd hF.1 (by omega)⟩
section
variable {C : List Mt.Ins} {s : List UInt8} {L : Nat} {F : Nat → Prop} {g fa : Nat} {w : World}
theorem MB.mstr (h : MB C s L F g fa w) : MStr w g s := by
 obtain ⟨ca, cc, nv, hc, _⟩ := h.cells
 unfold MStr
 rw [Lib.cell_of_heap hc]
 rfl
theorem MB.mno (h : MB C s L F g fa w) : MNo w g fa L := by
 obtain ⟨ca, cc, nv, hc, _⟩ := h.cells
 unfold MNo
 rw [Lib.cell_of_heap hc]
 rfl
theorem MB.code (h : MB C s L F g fa w) : ∃ ca cc, w.cell? ⟨g, 0, none⟩ = some (.slice ca C.length cc) ∧ RW F 4 (InR F w) w C (.slice ca C.length cc) := by
 obtain ⟨ca, cc, nv, hc, hr⟩ := h.cells
 exact ⟨ca, cc, by rw [Lib.cell_of_heap hc]; rfl, hr⟩
theorem MB.ins (h : MB C s L F g fa w) {pc : Nat} {i : Mt.Ins} (hi : C[pc]? = some i) : ∃ blk off cc ra rc, w.cell? ⟨g, 0, none⟩ = some (.slice (some ⟨blk, off, none⟩) C.length cc) ∧ blk < w.heap.size ∧
  w.cell? ⟨blk, off + pc * 4, none⟩ = some (.int .i64 (i.op : Int)) ∧ w.cell? ⟨blk, off + pc * 4 + 1, none⟩ = some (.int .i64 (i.x : Int)) ∧ w.cell? ⟨blk, off + pc * 4 + 2, none⟩ = some (.int .i64 (i.y : Int)) ∧ w.cell? ⟨blk, off + pc * 4 + 3, none⟩ = some (.slice ra i.rs.length rc) ∧ RW F 2 RgR w i.rs (.slice ra i.rs.length rc) := by
 obtain ⟨ca, cc, h0, hr⟩ := h.code
 obtain ⟨hlt, hget⟩ := List.getElem?_eq_some_iff.1 hi
 obtain ⟨a, c, e, _, hk⟩ := hr
 obtain ⟨blk, off, e1, hl, _, hc⟩ := hk (by omega)
 obtain ⟨us, hu, hcell, ra, rc, hus, hrw⟩ := hc pc hlt
 rw [hget] at hus hrw
 injection e with e2 e3 e4
 subst e2 e1
 subst hus
 exact ⟨blk, off, cc, ra, rc, h0, hl, hcell 0 (by decide), hcell 1 (by decide), hcell 2 (by decide), hcell 3 (by decide), hrw⟩
end
def RunP (C : List Mt.Ins) (s : List UInt8) (L : Nat) (fa : Nat) (F : Nat → Prop) (ms : List Mt.Mk) (w : World) (r : Mt.Res) (ev : Ending) (w' : World) : Prop := ∃ F', GoF F F' w w' ∧ FtB C s L F' fa w' ∧ match r with
 | none => ev = .returned (.tuple #[.int .i64 0, .pointer none, .bool false])
 | some x => ∃ v, ev = .returned (.tuple #[.int .i64 (x.1 : Int), v, .bool true]) ∧ MkAt F' w' (x.2 ++ ms) v
theorem RunP.no {C : List Mt.Ins} {s : List UInt8} {L fa : Nat} {F F' : Nat → Prop} {ms : List Mt.Mk} {w w' : World} {r : Mt.Res} (hr : r = none) (hg : GoF F F' w w') (hf : FtB C s L F' fa w') : RunP C s L fa F ms w r (.returned (.tuple #[.int .i64 0, .pointer none, .bool false])) w' := by
 subst hr
 exact ⟨F', hg, hf, rfl⟩
theorem RunP.yes {C : List Mt.Ins} {s : List UInt8} {L fa : Nat} {F F' : Nat → Prop} {ms : List Mt.Mk} {w w' : World} {r : Mt.Res} {a : Nat} {l : List Mt.Mk} {v : Value} (hr : r = some (a, l)) (hg : GoF F F' w w') (hf : FtB C s L F' fa w') (hm : MkAt F' w' (l ++ ms) v) : RunP C s L fa F ms w r (.returned (.tuple #[.int .i64 (a : Int), v, .bool true])) w' := by
 subst hr
 exact ⟨F', hg, hf, v, rfl, hm⟩
def RunAt (C : List Mt.Ins) (s : List UInt8) (L g fa N : Nat) : Prop := ∀ F pc at_ e ms v w r, MB C s L F g fa w → FtB C s L F fa w → MkAt F w ms v → at_ ≤ s.length → Mt.runF C s L N pc at_ e = some r →
 Calls Tryz.prog 113 #[.pointer (some ⟨g, 0, none⟩), .int .i64 ((pc : Nat) : Int), .int .i64 ((at_ : Nat) : Int), .int .i64 ((e : Nat) : Int), v] w (RunP C s L fa F ms w r)
end Go.Proofs.YtmpbjaodgajnfaaGreatDoor
namespace Go.Proofs.YtmpbjaodgajnfaaGreatDoor
open Go.RowKit
def InS (w0 : World) (i : Mt.Ins) (us : List Value) : Prop := ∃ ra rc, us = [.int .i64 (i.op : Int), .int .i64 (i.x : Int), .int .i64 (i.y : Int), .slice ra i.rs.length rc] ∧ RgAt w0 i.rs (.slice ra i.rs.length rc) ∧ i.rs.length ≤ 1000000 ∧ (ra = none → rc = 0)
structure PgR (w0 : World) (s : List UInt8) (g : Nat) (F : Nat → Prop) (code : List Mt.Ins) (names : List (List UInt8)) (lp : Nat) (cv nv : Value) (uss : List (List Value)) (W : World) : Prop where
 head : W.heap[g]? = some (.cells #[cv, nv, .int .i64 (lp : Int), .string ⟨s.toArray⟩, .slice none 0 0] 148 (0, 0))
 len : uss.length = code.length
 ins : ∀ k (h : k < code.length) (h' : k < uss.length), InS w0 code[k] uss[k]
 crow : W.ownsRow 0 152 4 cv code.length uss.flatten
 nrow : W.ownsRow 0 9 1 nv names.length (names.map fun x => Value.string ⟨x.toArray⟩)
 cout : ∀ k, cv.ownBlock = some k → ¬ F k ∧ k ≠ g ∧ nv.ownBlock ≠ some k
 nout : ∀ k, nv.ownBlock = some k → ¬ F k ∧ k ≠ g
 out : ¬ F g
 bnd : ∀ b, F b → b < W.heap.size
def PgS (w0 : World) (s : List UInt8) (g : Nat) (F : Nat → Prop) (code : List Mt.Ins) (names : List (List UInt8)) (lp : Nat) (W : World) : Prop := ∃ cv nv uss, PgR w0 s g F code names lp cv nv uss W
theorem own_block {W W' : World} {B : Nat} {e : TypeId} {k n : Nat} {v : Value} {xs : List Value} (h : W.ownsRow B e k v n xs) (hb : ∀ b, v.ownBlock = some b → W'.heap[b]? = W.heap[b]?) : W'.ownsRow B e k v n xs := by
 obtain ⟨h1, h2 | ⟨g, cap, cur, rfl, hB, hg, hr⟩⟩ := h
 ·exact ⟨h1, .inl h2⟩
 ·exact ⟨h1, .inr ⟨g, cap, cur, rfl, hB, (hb g rfl).trans hg, hr⟩⟩
theorem own_lt {W : World} {B : Nat} {e : TypeId} {k n : Nat} {v : Value} {xs : List Value} (h : W.ownsRow B e k v n xs) {b : Nat} (hb : v.ownBlock = some b) : b < W.heap.size := by
 obtain ⟨h1, ⟨rfl, _⟩ | ⟨g, cap, cur, rfl, hB, hg, hr⟩⟩ := h
 ·cases hb
 ·cases hb
  exact heap_lt hg
section
variable {w0 : World} {s : List UInt8} {g : Nat} {F F' : Nat → Prop} {code : List Mt.Ins} {names : List (List UInt8)} {lp : Nat} {cv nv : Value} {uss : List (List Value)} {W W' : World}
theorem PgR.keep (h : PgR w0 s g F code names lp cv nv uss W) (hb : ∀ b, b < W.heap.size → W'.heap[b]? = W.heap[b]?) (hF : ∀ b, F' b → b < W'.heap.size ∧ (b < W.heap.size → F b)) : PgR w0 s g F' code names lp cv nv uss W' where
 head := (hb g (heap_lt h.head)).trans h.head
 len := h.len
 ins := h.ins
 crow := own_block h.crow fun b hv => hb b (own_lt h.crow hv)
 nrow := own_block h.nrow fun b hv => hb b (own_lt h.nrow hv)
 cout := fun k hk => ⟨fun hf => (h.cout k hk).1 ((hF k hf).2 (own_lt h.crow hk)), (h.cout k hk).2⟩
 nout := fun k hk => ⟨fun hf => (h.nout k hk).1 ((hF k hf).2 (own_lt h.nrow hk)), (h.nout k hk).2⟩
 out := fun hf => h.out ((hF g hf).2 (heap_lt h.head))
 bnd := fun b hf => (hF b hf).1
theorem PgS.below (hp : PgS w0 s g F code names lp W) (h : Below W.heap.size W W') : PgS w0 s g (Fg F W W') code names lp W' := by
 obtain ⟨cv, nv, uss, hp⟩ := hp
 refine ⟨cv, nv, uss, hp.keep (fun b hl => h.block b hl) (fun b hF => ?_)⟩
 rcases hF with hF | hF
 ·exact ⟨Nat.lt_of_lt_of_le (hp.bnd b hF) h.size, fun _ => hF⟩
 ·exact ⟨hF.2, fun hl => absurd hF.1 (by omega)⟩
theorem PgR.c0 (h : PgR w0 s g F code names lp cv nv uss W) : W.cell? ⟨g, 0, none⟩ = some cv := by rw [Lib.cell_of_heap h.head]; rfl
theorem PgR.c1 (h : PgR w0 s g F code names lp cv nv uss W) : W.cell? ⟨g, 1, none⟩ = some nv := by rw [Lib.cell_of_heap h.head]; rfl
theorem PgR.c2 (h : PgR w0 s g F code names lp cv nv uss W) : W.cell? ⟨g, 2, none⟩ = some (.int .i64 (lp : Int)) := by rw [Lib.cell_of_heap h.head]; rfl
theorem PgR.fz (h : PgR w0 s g F code names lp cv nv uss W) (k : Nat) : W.frozen? ⟨g, k, none⟩ = false := by
 unfold World.frozen?
 rw [h.head]
 simp
theorem PgR.c0s (h : PgR w0 s g F code names lp cv nv uss W) : ∃ a c, cv = .slice a code.length c := by
 obtain ⟨_, ⟨h1, h2⟩ | ⟨q, cap, cur, h1, _⟩⟩ := h.crow
 ·exact ⟨none, 0, by rw [h1, h2]⟩
 ·exact ⟨_, _, h1⟩
theorem PgR.uss4 (h : PgR w0 s g F code names lp cv nv uss W) : ∀ u ∈ uss, u.length = 4 := fun u hu => by
 obtain ⟨i, hi, rfl⟩ := List.getElem_of_mem hu
 obtain ⟨ra, rc, e, _⟩ := h.ins i (by rw [← h.len]; exact hi) hi
 rw [e]
 rfl
theorem PgR.setLp (h : PgR w0 s g F code names lp cv nv uss W) (lp' : Nat) : PgR w0 s g F code names lp' cv nv uss (W.setCell ⟨g, 2, none⟩ (.int .i64 (lp' : Int))) where
 head := set_at h.head 2 _
 len := h.len
 ins := h.ins
 crow := own_block h.crow fun b hv => Deep.blk_setCell_other _ _ _ b (h.cout b hv).2.1
 nrow := own_block h.nrow fun b hv => Deep.blk_setCell_other _ _ _ b (h.nout b hv).2
 cout := h.cout
 nout := h.nout
 out := h.out
 bnd := fun b hf => by rw [Deep.nblk_setCell]; exact h.bnd b hf
theorem PgR.push (h : PgR w0 s g F code names lp cv nv uss W) {W1 : World} {cv' : Value} {i : Mt.Ins} {us : List Value} (hi : InS w0 i us) (hsz : W.heap.size ≤ W1.heap.size) (hb : ∀ b, b < W.heap.size → cv.ownBlock ≠ some b → W1.heap[b]? = W.heap[b]?) (hrow : W1.ownsRow 0 152 4 cv' (code.length + 1) (uss.flatten ++ us)) (hown : ∀ k, cv'.ownBlock = some k → cv.ownBlock = some k ∨ W.heap.size ≤ k) :
  PgR w0 s g F (code ++ [i]) names lp cv' nv (uss ++ [us]) (W1.setCell ⟨g, 0, none⟩ cv') where
 head := by
  have hg : cv.ownBlock ≠ some g := fun e => (h.cout g e).2.1 rfl
  exact set_at ((hb g (heap_lt h.head) hg).trans h.head) 0 cv'
 len := by simp [h.len]
 ins := fun k hk hk' => by
  by_cases e : k < code.length
  ·rw [List.getElem_append_left e, List.getElem_append_left (by rw [h.len]; exact e)]
   exact h.ins k e _
  ·have e2 : k = code.length := by rw [List.length_append, List.length_singleton] at hk; omega
   subst e2
   rw [List.getElem_append_right (by omega), List.getElem_append_right (by rw [h.len]; omega)]
   simp [h.len, hi]
 crow := by
  rw [List.length_append, List.length_singleton, List.flatten_append, show [us].flatten = us by simp]
  refine own_block hrow fun b hv => Deep.blk_setCell_other _ _ _ b ?_
  rcases hown b hv with e | e
  ·exact (h.cout b e).2.1
  ·have := heap_lt h.head
   exact fun x => by have : b = g := x; omega
 nrow := own_block h.nrow fun b hv => by
  rw [Deep.blk_setCell_other _ _ _ b (h.nout b hv).2]
  exact hb b (own_lt h.nrow hv) (fun e => (h.cout b e).2.2 hv)
 cout := fun k hk => by
  rcases hown k hk with e | e
  ·exact h.cout k e
  ·refine ⟨fun hf => ?_, fun x => ?_, fun x => ?_⟩
   ·have := h.bnd k hf; omega
   ·have := heap_lt h.head; omega
   ·have := own_lt h.nrow x; omega
 nout := h.nout
 out := h.out
 bnd := fun b hf => by rw [Deep.nblk_setCell]; have := h.bnd b hf; omega
theorem PgR.name (h : PgR w0 s g F code names lp cv nv uss W) {W1 : World} {nv' : Value} {nm : List UInt8} (hsz : W.heap.size ≤ W1.heap.size) (hb : ∀ b, b < W.heap.size → nv.ownBlock ≠ some b → W1.heap[b]? = W.heap[b]?) (hrow : W1.ownsRow 0 9 1 nv' (names.length + 1) ((names.map fun x => Value.string ⟨x.toArray⟩) ++ [.string ⟨nm.toArray⟩])) (hown : ∀ k, nv'.ownBlock = some k → nv.ownBlock = some k ∨ W.heap.size ≤ k) :
  PgR w0 s g F code (names ++ [nm]) lp cv nv' uss (W1.setCell ⟨g, 1, none⟩ nv') where
 head := by
  have hg : nv.ownBlock ≠ some g := fun e => (h.nout g e).2 rfl
  exact set_at ((hb g (heap_lt h.head) hg).trans h.head) 1 nv'
 len := h.len
 ins := h.ins
 crow := own_block h.crow fun b hv => by
  rw [Deep.blk_setCell_other _ _ _ b (h.cout b hv).2.1]
  exact hb b (own_lt h.crow hv) (h.cout b hv).2.2
 nrow := by
  rw [List.length_append, List.length_singleton, List.map_append]
  refine own_block hrow fun b hv => Deep.blk_setCell_other _ _ _ b ?_
  rcases hown b hv with e | e
  ·exact (h.nout b e).2
  ·have := heap_lt h.head
   exact fun x => by have : b = g := x; omega
 cout := fun k hk => by
  refine ⟨(h.cout k hk).1, (h.cout k hk).2.1, fun x => ?_⟩
  rcases hown k x with e | e
  ·exact (h.cout k hk).2.2 e
  ·have := own_lt h.crow hk; omega
 nout := fun k hk => by
  rcases hown k hk with e | e
  ·exact h.nout k e
  ·refine ⟨fun hf => ?_, fun x => ?_⟩
   ·have := h.bnd k hf; omega
   ·have := heap_lt h.head; omega
 out := h.out
 bnd := fun b hf => by rw [Deep.nblk_setCell]; have := h.bnd b hf; omega
end
end Go.Proofs.YtmpbjaodgajnfaaGreatDoor
namespace Go.Proofs.YtmpbjaodgajnfaaGreatDoor
open Go.RowKit
theorem step_append_run {P : Program} {ops : Array Oper} {o : Oper} {a : Act} {w w' : World} {K : Act → World → Prop} {Q : Exit → Act → World → Prop} {E : Prop} (hg : o.guard = none) (s x : Operand) (t : TypeId) (hop : o.op = Op.call { callee := Callee.builtin Builtin.append, args := #[s, x], argTypes := #[t, t] })
  (v u v' : Value) (hs : a.eval s = v) (hx : a.eval x = u) (hrun : (Builtin.append_ #[t, t] o.type #[v, u]).run P w = .ok v' w') (hK : K (a.put o.dst v') w') : if Region.wanted o (yielded ops a.tmps) = true then Oper.wp P o a w K Q else E := by
 have hw : Region.wanted o (yielded ops a.tmps) = true := by simp [Region.wanted, hg]
 rw [if_pos hw]
 unfold Oper.wp
 simp [execOp, hop, resolve, invoke, builtin, hs, hx, hrun, Result.andThen]
 exact hK
theorem infoIn : (Tryz.prog.info? 152).map (fun i => (i.zero, i.size, i.bytes)) = some (some (.agg #[.int .i64 0, .int .i64 0, .int .i64 0, .slice none 0 0]), 4, 48) := by kernel_rfl
set_option maxHeartbeats 8000000 in
set_option maxRecDepth 1000000 in
theorem emit_any (w0 : World) (s : List UInt8) (g : Nat) (F : Nat → Prop) (code : List Mt.Ins) (names : List (List UInt8)) (lp : Nat) (i : Mt.Ins) (ra : Option Addr) (rc : Nat) (W : World) (hp : PgS w0 s g F code names lp W) (hr : RgAt w0 i.rs (.slice ra i.rs.length rc) ∧ i.rs.length ≤ 1000000 ∧ (ra = none → rc = 0)) (hl : code.length ≤ 100000) :
  Calls Tryz.prog 83 #[.pointer (some ⟨g, 0, none⟩), .agg #[.int .i64 (i.op : Int), .int .i64 (i.x : Int), .int .i64 (i.y : Int), .slice ra i.rs.length rc]] W fun e W' => e = .returned (.int .i64 (code.length : Int)) ∧ PgS w0 s g F (code ++ [i]) names lp W' ∧ GoF F F W W' := by
 obtain ⟨cv, nv, uss, hp⟩ := hp
 obtain ⟨i0, hi, hz0, hz1, hz2⟩ := info_parts infoIn
 obtain ⟨us, hus⟩ : ∃ us : List Value, us = [.int .i64 (i.op : Int), .int .i64 (i.x : Int), .int .i64 (i.y : Int), .slice ra i.rs.length rc] := ⟨_, rfl⟩
 obtain ⟨Wa, hWa⟩ : ∃ Wa, W.alloc (.cells #[.int .i64 (i.op : Int), .int .i64 (i.x : Int), .int .i64 (i.y : Int), .slice ra i.rs.length rc] 152) = Wa := ⟨_, rfl⟩
 have hba : Below W.heap.size W Wa := by rw [← hWa]; exact (Below.refl _ _).alloc (Nat.le_refl _) _
 have hsz : Wa.heap.size = W.heap.size + 1 := by rw [← hWa]; exact Deep.nblk_alloc W _
 obtain ⟨Wb, hWb⟩ : ∃ Wb, Wa.drew.alloc (.cells #[.int .i64 (i.op : Int), .int .i64 (i.x : Int), .int .i64 (i.y : Int), .slice ra i.rs.length rc] 152) = Wb := ⟨_, rfl⟩
 have hbb : Below W.heap.size W Wb := by rw [← hWb]; exact (hba.trans ((Below.refl _ _).drew)).alloc (by show W.heap.size ≤ Wa.heap.size; omega) _
 have hnb : Wb.heap[Wa.heap.size]? = some (.cells #[.int .i64 (i.op : Int), .int .i64 (i.x : Int), .int .i64 (i.y : Int), .slice ra i.rs.length rc] 152 (0, 0)) := by rw [← hWb]; exact Deep.blk_alloc_new Wa.drew _
 have hpb := hp.keep (W' := Wb) (F' := F) (fun b hl => hbb.block b hl) (fun b hF => ⟨Nat.lt_of_lt_of_le (hp.bnd b hF) hbb.size, fun _ => hF⟩)
 obtain ⟨cv', Wc, hrun, hown, hgr, _, hnew⟩ := run_append_own2 (P := Tryz.prog) (w := Wb) 0 143 143 152 i0 (.agg #[.int .i64 0, .int .i64 0, .int .i64 0, .slice none 0 0]) 4 48 Tryz.underlying143 hi hz0 hz1 hz2 rfl (by decide) cv code.length uss.flatten hpb.crow ⟨Wa.heap.size, 0, none⟩ 1 1 us (by rw [hus]; rfl) (by rw [hus]; exact World.news_of_block hnb) (by rw [hus]; intro u hu; simp only [List.mem_cons, List.not_mem_nil, or_false] at hu; rcases hu with rfl | rfl | rfl | rfl <;> rfl) (by unfold maxLen; omega) (by omega) (Nat.zero_le _)
 obtain ⟨a', c', hcv'⟩ : ∃ a c, cv' = .slice a (code.length + 1) c := by
  obtain ⟨_, ⟨h1, h2⟩ | ⟨q, cap, cur, h1, _⟩⟩ := hown
  ·omega
  ·exact ⟨_, _, h1⟩
 have hgg : cv.ownBlock ≠ some g := fun e => (hp.cout g e).2.1 rfl
 have hgl : g < W.heap.size := heap_lt hp.head
 have hcg : Wc.heap[g]? = Wb.heap[g]? := hgr.block g (heap_lt hpb.head) (fun e => hgg e.symm)
 have hpush := hp.push (W1 := Wc) (i := i) (us := us) ⟨ra, rc, hus, hr⟩ (Nat.le_trans hbb.size hgr.size) (fun b hb he => (hgr.block b (Nat.lt_of_lt_of_le hb hbb.size) (fun e => he e.symm)).trans (hbb.block b hb)) hown (fun k hk => (hnew k hk).imp id (fun h => Nat.le_trans hbb.size h))
 have hkp : GoF F F W (Wc.setCell ⟨g, 0, none⟩ cv') := ⟨Kp.set ⟨hgr.os.trans hbb.os, hgr.tape.trans hbb.tape, hgr.output.trans hbb.output, Nat.le_trans hbb.size hgr.size, fun b hb hl => (hgr.block b (Nat.lt_of_lt_of_le hl hbb.size) (fun e => (hp.cout b e.symm).1 hb)).trans (hbb.block b hl)⟩ g 0 _ (fun _ => hp.out), fun _ h => h⟩
 have HPS : Hid (PgS w0 s g F (code ++ [i]) names lp (Wc.setCell ⟨g, 0, none⟩ cv')) := Lib.hid ⟨_, _, _, hpush⟩
 have HKP := Lib.hid hkp
 have e0 : Wa.cell? ⟨g, 0, none⟩ = some cv := (hba.cell (p := ⟨g, 0, none⟩) hgl).trans hp.c0
 have e1 : Wb.cell? ⟨g, 0, none⟩ = some cv := hpb.c0
 have e2 : Wc.cell? ⟨g, 0, none⟩ = some cv := (World.cell?_of_block (w := Wb) (w' := Wc) (a := ⟨g, 0, none⟩) hcg).trans hpb.c0
 have e3 : Wc.frozen? ⟨g, 0, none⟩ = false := (World.frozen?_of_block (w := Wb) (w' := Wc) (a := ⟨g, 0, none⟩) hcg).trans (hpb.fz 0)
 have hna : Wa.heap[W.heap.size]? = some (.cells #[.int .i64 (i.op : Int), .int .i64 (i.x : Int), .int .i64 (i.y : Int), .slice ra i.rs.length rc] 152 (0, 0)) := by rw [← hWa]; exact Deep.blk_alloc_new W _
 have b0 : Wa.cell? ⟨W.heap.size, 0, none⟩ = some (.int .i64 (i.op : Int)) := by rw [Lib.cell_of_heap hna]; rfl
 have b1 : Wa.cell? ⟨W.heap.size, 1, none⟩ = some (.int .i64 (i.x : Int)) := by rw [Lib.cell_of_heap hna]; rfl
 have b2 : Wa.cell? ⟨W.heap.size, 2, none⟩ = some (.int .i64 (i.y : Int)) := by rw [Lib.cell_of_heap hna]; rfl
 have b3 : Wa.cell? ⟨W.heap.size, 3, none⟩ = some (.slice ra i.rs.length rc) := by rw [Lib.cell_of_heap hna]; rfl
 have e4 : Wc.setCell ⟨g, 0, none⟩ cv' = Wc.setCell ⟨g, 0, none⟩ cv' := rfl
 subst hcv'
 rw [hsz] at hrun
 clear hp hpb hus hpush hkp hown hgr hnew hcg hna hnb hi hz0 hz1 hz2 hba hbb hr hgg e4
 go_enter Tryz.func83, Tryz.ntmps83
 go_wp2_with fail
 go_region_law (refine step_append_run (by rfl) _ _ _ (by rfl) _ _ _ (by rfl) (by rfl) hrun ?_)
 all_goals
  go_wp2_with fail
  go_ret
  exact ⟨ret_int (by omega), HPS.out, HKP.out⟩
end Go.Proofs.YtmpbjaodgajnfaaGreatDoor
namespace Go.Proofs.YtmpbjaodgajnfaaGreatDoor
open Go.RowKit
theorem idx_from (nm : List UInt8) : ∀ (ns : List (List UInt8)) (i : Nat), Lib.idxFromS (ns.map fun x => (⟨x.toArray⟩ : ByteArray)) ⟨nm.toArray⟩ i = if ns.contains nm = true then ((i + Mt.capI ns nm : Nat) : Int) else -1
 | [], i => by simp [Lib.idxFromS]
 | n :: ns, i => by
  have hin : ((⟨n.toArray⟩ : ByteArray) = ⟨nm.toArray⟩) ↔ n = nm := by
   constructor
   ·intro h
    have h1 := congrArg ByteArray.data h
    simpa using h1
   ·rintro rfl
    rfl
  rw [List.map_cons, Lib.idxFromS]
  by_cases h : n = nm
  ·rw [if_pos (hin.2 h)]
   subst h
   have hc : Mt.capI (n :: ns) n = 0 := by unfold Mt.capI; rw [List.findIdx?_cons]; simp
   rw [hc]
   simp
  ·rw [if_neg (fun e => h (hin.1 e)), idx_from nm ns (i + 1)]
   have hcont : (n :: ns).contains nm = ns.contains nm := by
    rw [List.contains_cons]
    have : (nm == n) = false := by rw [beq_eq_false_iff_ne]; exact fun e => h e.symm
    rw [this, Bool.false_or]
   rw [hcont]
   cases hb : ns.contains nm with
   | false => rfl
   | true =>
    rw [if_pos rfl, if_pos rfl]
    have hnf : ∃ k, ns.findIdx? (· == nm) = some k := by
     cases hf : ns.findIdx? (· == nm) with
     | some k => exact ⟨k, rfl⟩
     | none =>
      rw [List.findIdx?_eq_none_iff] at hf
      have := hf nm (by simpa using hb)
      simp at this
    obtain ⟨k, hk⟩ := hnf
    have h2 : (n == nm) = false := by rw [beq_eq_false_iff_ne]; exact h
    have hc : Mt.capI (n :: ns) nm = Mt.capI ns nm + 1 := by
     unfold Mt.capI
     rw [List.findIdx?_cons, h2, hk]
     simp
    rw [hc]
    omega
theorem idx_cap (ns : List (List UInt8)) (nm : List UInt8) : Lib.idxOfS (ns.map fun x => (⟨x.toArray⟩ : ByteArray)) ⟨nm.toArray⟩ = if ns.contains nm = true then ((Mt.capI ns nm : Nat) : Int) else -1 := by
 unfold Lib.idxOfS
 rw [idx_from, Nat.zero_add]
theorem capI_new {ns : List (List UInt8)} {nm : List UInt8} (h : ns.contains nm = false) : Mt.capI ns nm = ns.length := by
 unfold Mt.capI
 have : ns.findIdx? (· == nm) = none := by
  rw [List.findIdx?_eq_none_iff]
  intro x hx
  rw [beq_eq_false_iff_ne]
  rintro rfl
  have : ns.contains x = true := by simpa using hx
  rw [h] at this
  cases this
 rw [this]
 rfl
theorem wpList_append_run {P : Program} {w w' : World} {ops : Array Oper} {rest : List Oper} {o : Oper} {a : Act} {Q : Exit → Act → World → Prop} (hgd : o.guard = none) (s x : Operand) (t : TypeId) (hop : o.op = .call { callee := .builtin .append, args := #[s, x], argTypes := #[t, t] })
  (v u v' : Value) (hs : a.eval s = v) (hx : a.eval x = u) (hrun : (Builtin.append_ #[t, t] o.type #[v, u]).run P w = .ok v' w') (h : wpList P ops Q rest (a.put o.dst v') w') : wpList P ops Q (o :: rest) a w := by
 refine wpList_plain hgd fun K hK' => ?_
 unfold Oper.wp
 simp [execOp, hop, resolve, invoke, builtin, hs, hx, hrun, Result.andThen]
 exact hK' _ _ h
theorem infoSt : (Tryz.prog.info? 9).map (fun i => (i.zero, i.size, i.bytes)) = some (some (.string ⟨#[]⟩), 1, 16) := by kernel_rfl
theorem PgR.idx {w0 : World} {s : List UInt8} {g : Nat} {F : Nat → Prop} {code : List Mt.Ins} {names : List (List UInt8)} {lp : Nat} {cv nv : Value} {uss : List (List Value)} {W : World} (h : PgR w0 s g F code names lp cv nv uss W) (hl : names.length ≤ 100000) (nm : List UInt8) :
  Calls Tryz.prog 106 #[nv, .string ⟨nm.toArray⟩] W fun e w' => e = .returned (.int .i64 (if names.contains nm = true then ((Mt.capI names nm : Nat) : Int) else -1)) ∧ w' = W := by
 rw [← idx_cap]
 obtain ⟨h1, ⟨rfl, h2⟩ | ⟨q, cap, cur, rfl, _, hg, _, _, hcs, htk⟩⟩ := h.nrow
 ·obtain rfl := List.length_eq_zero_iff.1 h2
  exact Tryz.slices_Index_string_empty none 0 ⟨nm.toArray⟩ W
 ·refine (Tryz.slices_Index_string q 0 names.length cap (names.map fun x => (⟨x.toArray⟩ : ByteArray)) ⟨nm.toArray⟩ W (by simp) (by omega) (fun j hj => ?_)).mono fun e w' ⟨h3, h4⟩ => ⟨?_, h4⟩
  ·rw [List.length_map] at hj
   rw [Lib.cell_of_heap hg, Nat.zero_add]
   have e : (cur.toList.take (names.length * 1))[j]? = (names.map fun x => Value.string ⟨x.toArray⟩)[j]? := by rw [htk]
   rw [List.getElem?_take_of_lt (by omega)] at e
   simp only [Array.getElem?_toList] at e
   rw [e]
   simp [hj]
  ·rw [h3, List.take_of_length_le (by simp)]
set_option maxHeartbeats 8000000 in
set_option maxRecDepth 1000000 in
theorem capture_any (w0 : World) (s : List UInt8) (g : Nat) (F : Nat → Prop) (code : List Mt.Ins) (names : List (List UInt8)) (lp : Nat) (nm : List UInt8) (W : World) (hp : PgS w0 s g F code names lp W) (hl : names.length ≤ 100000) :
  Calls Tryz.prog 111 #[.pointer (some ⟨g, 0, none⟩), .string ⟨nm.toArray⟩] W fun e W' => e = .returned (.int .i64 ((Mt.capI names nm : Nat) : Int)) ∧ PgS w0 s g F code (Mt.capL names nm) lp W' ∧ GoF F F W W' := by
 obtain ⟨cv, nv, uss, hp⟩ := hp
 have HI := Lib.hid (hp.idx hl nm)
 have c1 := hp.c1
 cases hc : names.contains nm with
 | true =>
  have hcl : Mt.capL names nm = names := by unfold Mt.capL; rw [if_pos hc]
  rw [hcl]
  have HP : Hid (PgS w0 s g F code names lp W) := Lib.hid ⟨_, _, _, hp⟩
  rw [hc] at HI
  obtain ⟨k, hk⟩ : ∃ k, Mt.capI names nm = k := ⟨_, rfl⟩
  rw [hk] at HI ⊢
  clear hp hc hcl hk
  go_enter Tryz.func111, Tryz.ntmps111
  go_wp2_with (go_at_call 106; refine HI.out.mono fun e w1 ⟨he, hw⟩ => ?_; subst hw; rw [if_pos rfl] at he; subst he)
  go_ret
  exact ⟨rfl, HP.out, GoF.refl _ _⟩
 | false =>
  have hcl : Mt.capL names nm = names ++ [nm] := by unfold Mt.capL; rw [hc]; rfl
  rw [hcl, capI_new hc]
  rw [hc] at HI
  obtain ⟨i0, hi, hz0, hz1, hz2⟩ := info_parts infoSt
  obtain ⟨Wb, hWb⟩ : ∃ Wb, W.alloc (.cells #[.string ⟨nm.toArray⟩] 9) = Wb := ⟨_, rfl⟩
  have hbb : Below W.heap.size W Wb := by rw [← hWb]; exact (Below.refl _ _).alloc (Nat.le_refl _) _
  have hnb : Wb.heap[W.heap.size]? = some (.cells #[.string ⟨nm.toArray⟩] 9 (0, 0)) := by rw [← hWb]; exact Deep.blk_alloc_new W _
  have hpb := hp.keep (W' := Wb) (F' := F) (fun b hl => hbb.block b hl) (fun b hF => ⟨Nat.lt_of_lt_of_le (hp.bnd b hF) hbb.size, fun _ => hF⟩)
  obtain ⟨nv', Wc, hrun, hown, hgr, _, hnew⟩ := run_append_own2 (P := Tryz.prog) (w := Wb) 0 29 29 9 i0 (.string ⟨#[]⟩) 1 16 Tryz.underlying29 hi hz0 hz1 hz2 rfl (by decide) nv names.length _ hpb.nrow ⟨W.heap.size, 0, none⟩ 1 1 [.string ⟨nm.toArray⟩] rfl (World.news_of_block hnb) (by intro u hu; simp only [List.mem_cons, List.not_mem_nil, or_false] at hu; subst hu; rfl) (by unfold maxLen; omega) (by omega) (Nat.zero_le _)
  have hgg : nv.ownBlock ≠ some g := fun e => (hp.nout g e).2 rfl
  have hgl : g < W.heap.size := heap_lt hp.head
  have hcg : Wc.heap[g]? = Wb.heap[g]? := hgr.block g (heap_lt hpb.head) (fun e => hgg e.symm)
  have hpush := hp.name (W1 := Wc) (nm := nm) (Nat.le_trans hbb.size hgr.size) (fun b hb he => (hgr.block b (Nat.lt_of_lt_of_le hb hbb.size) (fun e => he e.symm)).trans (hbb.block b hb)) hown (fun k hk => (hnew k hk).imp id (fun h => Nat.le_trans hbb.size h))
  have hkp : GoF F F W (Wc.setCell ⟨g, 1, none⟩ nv') := ⟨Kp.set ⟨hgr.os.trans hbb.os, hgr.tape.trans hbb.tape, hgr.output.trans hbb.output, Nat.le_trans hbb.size hgr.size, fun b hb hl => (hgr.block b (Nat.lt_of_lt_of_le hl hbb.size) (fun e => (hp.nout b e.symm).1 hb)).trans (hbb.block b hl)⟩ g 1 _ (fun _ => hp.out), fun _ h => h⟩
  have HPS : Hid (PgS w0 s g F code (names ++ [nm]) lp (Wc.setCell ⟨g, 1, none⟩ nv')) := Lib.hid ⟨_, _, _, hpush⟩
  have HKP := Lib.hid hkp
  have e2 : Wc.cell? ⟨g, 1, none⟩ = some nv := (World.cell?_of_block (w := Wb) (w' := Wc) (a := ⟨g, 1, none⟩) hcg).trans hpb.c1
  have e3 : Wc.frozen? ⟨g, 1, none⟩ = false := (World.frozen?_of_block (w := Wb) (w' := Wc) (a := ⟨g, 1, none⟩) hcg).trans (hpb.fz 1)
  obtain ⟨na, nc, hnv⟩ : ∃ a c, nv = .slice a names.length c := by
   obtain ⟨_, ⟨h1, h2⟩ | ⟨q, cap, cur, h1, _⟩⟩ := hp.nrow
   ·exact ⟨none, 0, by rw [h1, h2]⟩
   ·exact ⟨_, _, h1⟩
  subst hnv
  obtain ⟨a', c', hnv'⟩ : ∃ a c, nv' = .slice a (names.length + 1) c := by
   obtain ⟨_, ⟨h1, h2⟩ | ⟨q, cap, cur, h1, _⟩⟩ := hown
   ·omega
   ·exact ⟨_, _, h1⟩
  subst hnv'
  obtain ⟨k, hk⟩ : ∃ k, names.length = k := ⟨_, rfl⟩
  rw [hk] at HI c1 e2 hrun hl HPS HKP ⊢
  clear hp hc hcl hpb hown hgr hnew hcg hbb hnb hpush hkp hgg hi hz0 hz1 hz2 hk
  go_enter Tryz.func111, Tryz.ntmps111
  go_wp2_with (first
   | (go_at_call 106; refine HI.out.mono fun e w1 ⟨he, hw⟩ => ?_; subst hw; rw [if_neg (by decide)] at he; subst he)
   | (at_builtin; refine wpList_append_run rfl _ _ _ rfl _ _ _ rfl rfl hrun ?_))
  go_ret
  exact ⟨rfl, HPS.out, HKP.out⟩
end Go.Proofs.YtmpbjaodgajnfaaGreatDoor
namespace Go.Proofs.YtmpbjaodgajnfaaGreatDoor
open Go.RowKit
namespace Mt
def upX (v : Nat) (i : Ins) : Ins := { i with x := v }
def upY (v : Nat) (i : Ins) : Ins := { i with y := v }
def up (j v : Nat) (i : Ins) : Ins := if j = 1 then upX v i else upY v i
end Mt
theorem modify_len {α : Type} (l : List α) (k : Nat) (f : α → α) : (l.modify k f).length = l.length := List.length_modify ..
theorem flat_set (k : Nat) (hk : 0 < k) : ∀ (uss : List (List Value)) (i j : Nat) (v : Value), (∀ u ∈ uss, u.length = k) → i < uss.length → j < k → uss.flatten.set (i * k + j) v = (uss.modify i fun u => u.set j v).flatten
 | [], i, j, v, _, h, _ => by simp at h
 | u :: us, i, j, v, hu, h, hj => by
  have h0 : u.length = k := hu u (by simp)
  cases i with
  | zero =>
   rw [List.flatten_cons, Nat.zero_mul, Nat.zero_add, List.set_append_left _ _ (by omega)]
   simp [List.modify]
  | succ i =>
   rw [List.flatten_cons, List.set_append_right _ _ (by rw [h0, Nat.succ_mul]; omega), h0, show (i + 1) * k + j - k = i * k + j by rw [Nat.succ_mul]; omega, flat_set k hk us i j v (fun x hx => hu x (List.mem_cons_of_mem _ hx)) (by simpa using h) hj]
   simp [List.modify]
structure PutF (w0 : World) (s : List UInt8) (g : Nat) (F : Nat → Prop) (code : List Mt.Ins) (names : List (List UInt8)) (lp k j q cap : Nat) (W : World) : Prop where
 c0 : W.cell? ⟨g, 0, none⟩ = some (.slice (some ⟨q, 0, none⟩) code.length cap)
 cell : ∃ n : Nat, W.cell? ⟨q, k * 4 + j, none⟩ = some (.int .i64 (n : Int))
 soft : W.frozen? ⟨q, k * 4 + j, none⟩ = false
 done : ∀ v : Nat, PgS w0 s g F (code.modify k (Mt.up j v)) names lp (W.drew.setCell ⟨q, k * 4 + j, none⟩ (.int .i64 (v : Int))) ∧ GoF F F W (W.drew.setCell ⟨q, k * 4 + j, none⟩ (.int .i64 (v : Int)))
theorem PgS.put {w0 : World} {s : List UInt8} {g : Nat} {F : Nat → Prop} {code : List Mt.Ins} {names : List (List UInt8)} {lp : Nat} {W : World} (h : PgS w0 s g F code names lp W) {k : Nat} (hk : k < code.length) (j : Nat) (hj : j = 1 ∨ j = 2) : ∃ q cap, PutF w0 s g F code names lp k j q cap W := by
 obtain ⟨cv, nv, uss, h⟩ := h
 have h4 := h.uss4
 obtain ⟨hlen, ⟨h1, h2⟩ | ⟨q, cap, cur, hcv, _, hg, hnc, hcm, hcs, htk⟩⟩ := h.crow
 ·omega
 subst hcv
 have hku : k < uss.length := by rw [h.len]; exact hk
 obtain ⟨ra, rc, hus, hrg⟩ := h.ins k hk hku
 have hj4 : j < 4 := by omega
 have hidx : k * 4 + j < code.length * 4 := by omega
 have hcur : cur[k * 4 + j]? = uss[k][j]? := by
  have e := flat_at 4 uss h4 k j hku hj4
  rw [← htk, List.getElem?_take_of_lt hidx] at e
  simpa using e
 have hsz : k * 4 + j < cur.size := by rw [hcs]; omega
 have hout := (h.cout q rfl)
 refine ⟨q, cap, by rw [h.c0], ?_, by unfold World.frozen?; rw [hg]; simp, fun v => ⟨⟨.slice (some ⟨q, 0, none⟩) code.length cap, nv, uss.modify k fun u => u.set j (.int .i64 (v : Int)), ?_⟩, ?_⟩⟩
 ·rw [Lib.cell_of_heap hg, hcur, hus]
  rcases hj with rfl | rfl
  ·exact ⟨_, rfl⟩
  ·exact ⟨_, rfl⟩
 ·have hother : ∀ b, b ≠ q → (W.drew.setCell ⟨q, k * 4 + j, none⟩ (.int .i64 (v : Int))).heap[b]? = W.heap[b]? := fun b hb => Deep.blk_setCell_other W.drew ⟨q, k * 4 + j, none⟩ (.int .i64 (v : Int)) b hb
  refine { head := ?_, len := ?_, ins := fun a ha ha' => ?_, crow := ?_, nrow := ?_, cout := ?_, nout := h.nout, out := h.out, bnd := ?_ }
  ·rw [hother g (fun e => hout.2.1 e.symm)]
   exact h.head
  ·rw [modify_len, modify_len, h.len]
  ·rw [modify_len] at ha ha'
   rw [List.getElem_modify, List.getElem_modify]
   by_cases e : k = a
   ·subst e
    rw [if_pos rfl, if_pos rfl, hus]
    refine ⟨ra, rc, ?_, ?_⟩
    ·rcases hj with rfl | rfl
     ·rfl
     ·rfl
    ·rcases hj with rfl | rfl
     ·exact hrg
     ·exact hrg
   ·rw [if_neg e, if_neg e]
    exact h.ins a ha ha'
  ·refine ⟨?_, .inr ⟨q, cap, cur.setIfInBounds (k * 4 + j) (.int .i64 (v : Int)), by rw [modify_len], Nat.zero_le _, set_at (w := W.drew) hg _ _, by rw [modify_len]; exact hnc, hcm, by simp [hcs], ?_⟩⟩
   ·rw [← flat_set 4 (by decide) uss k j _ h4 hku hj4, List.length_set, modify_len]
    exact hlen
   ·rw [← flat_set 4 (by decide) uss k j _ h4 hku hj4, ← htk, modify_len]
    apply List.ext_getElem?
    intro a
    rw [List.getElem?_set]
    by_cases ha : a < code.length * 4
    ·rw [List.getElem?_take_of_lt ha]
     by_cases e : k * 4 + j = a
     ·subst e
      simp [hsz]
      rw [← hcs] at *
      omega
     ·rw [if_neg e, List.getElem?_take_of_lt ha]
      simp [e]
    ·rw [List.getElem?_eq_none (by simp; omega)]
     rw [if_neg (by omega), List.getElem?_eq_none (by simp; omega)]
  ·refine own_block h.nrow fun b hb => hother b fun e => ?_
   subst e
   exact hout.2.2 hb
  ·intro b hb
   exact h.cout b hb
  ·intro b hb
   rw [Deep.nblk_setCell]
   exact h.bnd b hb
 ·exact ⟨Kp.set (F := F) (w := W) (w' := W.drew) ⟨rfl, rfl, rfl, Nat.le_refl _, fun _ _ _ => rfl⟩ q _ _ (fun _ => hout.1), fun _ h => h⟩
end Go.Proofs.YtmpbjaodgajnfaaGreatDoor
namespace Go.Proofs.YtmpbjaodgajnfaaGreatDoor.Mt
def endsA : List NT → Nat → List Nm → List Nat
 | [], _, _ => []
 | [_], _, _ => []
 | k :: k2 :: ks, b, ns => (b + 1 + (compN k (b + 1) ns).1.length) :: endsA (k2 :: ks) (b + 1 + (compN k (b + 1) ns).1.length + 1) (compN k (b + 1) ns).2
theorem endsA_two (k k2 : NT) (ks : List NT) (b : Nat) (ns : List Nm) : endsA (k :: k2 :: ks) b ns = (b + 1 + (compN k (b + 1) ns).1.length) :: endsA (k2 :: ks) (b + 1 + (compN k (b + 1) ns).1.length + 1) (compN k (b + 1) ns).2 := by
 rw [endsA]
def setAll (f : Ins → Ins) (c : List Ins) (ps : List Nat) : List Ins := ps.foldl (fun c p => c.modify p f) c
theorem setAll_nil (f : Ins → Ins) (c : List Ins) : setAll f c [] = c := rfl
theorem setAll_cons (f : Ins → Ins) (c : List Ins) (p : Nat) (ps : List Nat) : setAll f c (p :: ps) = setAll f (c.modify p f) ps := rfl
theorem setAll_len (f : Ins → Ins) (ps : List Nat) : ∀ c : List Ins, (setAll f c ps).length = c.length := by
 induction ps with
 | nil => intro c; rfl
 | cons p ps ih => intro c; rw [setAll_cons, ih, modify_len]
theorem modify_mid (f : Ins → Ins) (pre : List Ins) (i : Ins) (post : List Ins) (p : Nat) (hp : p = pre.length) : (pre ++ i :: post).modify p f = pre ++ f i :: post := by
 subst hp
 induction pre with
 | nil => rfl
 | cons a l ih => simp only [List.cons_append, List.length_cons, List.modify_succ_cons, ih]
theorem compA_ends (E : Nat) : ∀ (ks : List NT) (pre : List Ins) (ns : List Nm), setAll (upX E) (pre ++ (compA 0 ks pre.length ns).1) (endsA ks pre.length ns) = pre ++ (compA E ks pre.length ns).1
 | [], pre, ns => by rw [compA, compA, endsA, setAll_nil]
 | [k], pre, ns => by rw [compA, compA, endsA, setAll_nil]
 | k :: k2 :: ks, pre, ns => by
  rw [compA_two, compA_two, endsA_two, setAll_cons]
  obtain ⟨c, hc⟩ : ∃ c, compN k (pre.length + 1) ns = c := ⟨_, rfl⟩
  rw [hc]
  simp only [List.cons_append]
  have e1 : pre ++ (⟨1, pre.length + 1, pre.length + 1 + c.1.length + 1, []⟩ :: (c.1 ++ (⟨2, 0, 0, []⟩ :: (compA 0 (k2 :: ks) (pre.length + 1 + c.1.length + 1) c.2).1))) = (pre ++ ⟨1, pre.length + 1, pre.length + 1 + c.1.length + 1, []⟩ :: c.1) ++ (⟨2, 0, 0, []⟩ :: (compA 0 (k2 :: ks) (pre.length + 1 + c.1.length + 1) c.2).1) := by simp
  rw [e1, modify_mid (upX E) _ _ _ _ (by simp; omega)]
  have hl : ((pre ++ ⟨1, pre.length + 1, pre.length + 1 + c.1.length + 1, []⟩ :: c.1) ++ [(⟨2, E, 0, []⟩ : Ins)]).length = pre.length + 1 + c.1.length + 1 := by simp; omega
  have ih := compA_ends E (k2 :: ks) ((pre ++ ⟨1, pre.length + 1, pre.length + 1 + c.1.length + 1, []⟩ :: c.1) ++ [(⟨2, E, 0, []⟩ : Ins)]) c.2
  rw [hl] at ih
  have e2 : (pre ++ ⟨1, pre.length + 1, pre.length + 1 + c.1.length + 1, []⟩ :: c.1) ++ (upX E ⟨2, 0, 0, []⟩ :: (compA 0 (k2 :: ks) (pre.length + 1 + c.1.length + 1) c.2).1) = ((pre ++ ⟨1, pre.length + 1, pre.length + 1 + c.1.length + 1, []⟩ :: c.1) ++ [(⟨2, E, 0, []⟩ : Ins)]) ++ (compA 0 (k2 :: ks) (pre.length + 1 + c.1.length + 1) c.2).1 := by unfold upX; simp
  rw [e2, ih]
  simp
def endsO (f : Nat → List Nm → Cmp) : Nat → Nat → List Nm → List Nat
 | 0, _, _ => []
 | n + 1, b, ns => b :: endsO f n (b + 1 + (f (b + 1) ns).1.length) (f (b + 1) ns).2
theorem opts_ends (f : Nat → List Nm → Cmp) (E : Nat) : ∀ (n : Nat) (pre : List Ins) (ns : List Nm), setAll (upY E) (pre ++ (opts f 0 n pre.length ns).1) (endsO f n pre.length ns) = pre ++ (opts f E n pre.length ns).1
 | 0, pre, ns => by rw [opts, opts, endsO, setAll_nil]
 | n + 1, pre, ns => by
  rw [opts, opts, endsO, setAll_cons]
  obtain ⟨c, hc⟩ : ∃ c, f (pre.length + 1) ns = c := ⟨_, rfl⟩
  rw [hc]
  simp only [List.cons_append]
  rw [modify_mid (upY E) _ _ _ _ rfl]
  have hl : (pre ++ (⟨1, pre.length + 1, E, []⟩ : Ins) :: c.1).length = pre.length + 1 + c.1.length := by simp; omega
  have ih := opts_ends f E n (pre ++ (⟨1, pre.length + 1, E, []⟩ : Ins) :: c.1) c.2
  rw [hl] at ih
  have e2 : pre ++ upY E ⟨1, pre.length + 1, 0, []⟩ :: (c.1 ++ (opts f 0 n (pre.length + 1 + c.1.length) c.2).1) = (pre ++ (⟨1, pre.length + 1, E, []⟩ : Ins) :: c.1) ++ (opts f 0 n (pre.length + 1 + c.1.length) c.2).1 := by unfold upY; simp
  rw [e2, ih]
  simp
def Ok1 (op : Int) (n : Nat) (mn mx : Int) : Prop := (op = 3 → 2 ≤ n) ∧ (op = 5 → n = 1) ∧ (op = 4 → n = 1 ∧ 0 ≤ mn ∧ mn ≤ 40 ∧ (mx = -1 ∨ (mn ≤ mx ∧ mx ≤ 40)))
mutual
def okN : NT → Prop
 | .node op rs _ ks mn mx => Ok1 op ks.length mn mx ∧ okL ks ∧ (op = 1 → 0 < rs.length ∧ rs.length ≤ 1000000)
def okL : List NT → Prop
 | [] => True
 | k :: ks => okN k ∧ okL ks
end
theorem okL_mem {ks : List NT} (h : okL ks) : ∀ i (hi : i < ks.length), okN ks[i] := by
 induction ks with
 | nil => intro i hi; simp at hi
 | cons k ks ih =>
  rw [okL] at h
  intro i hi
  cases i with
  | zero => exact h.1
  | succ i => exact ih h.2 i (by simpa using hi)
theorem shE_ok {op : Int} {rs : List (UInt8 × UInt8)} {nm : List UInt8} {n : Nat} {mn mx : Int} (h : shE op rs nm n mn mx = 0) : Ok1 op n mn mx := by
 unfold shE at h
 split at h
 ·cases h
 ·next hs =>
  split at h
  ·cases h
  ·split at h
   ·cases h
   ·next h4 =>
    refine ⟨fun e => ?_, fun e => ?_, fun e => ?_⟩
    ·subst e
     rw [shp_3] at hs
     simp at hs
     exact hs.1
    ·subst e
     rw [shp_5] at hs
     simp at hs
     exact hs.1
    ·subst e
     rw [shp_4] at hs
     simp at hs
     refine ⟨hs.1, ?_⟩
     unfold badR at h4
     simp at h4
     omega
theorem srt_low {rs : List (UInt8 × UInt8)} (h : ∀ i (h : i < rs.length), okR rs i h) : ∀ i (hi : i < rs.length), 2 * i ≤ rs[i].1.toNat
 | 0, _ => Nat.zero_le _
 | i + 1, hi => by
  have h1 := srt_low h i (by omega)
  have h2 := h i (by omega)
  have h3 := (h (i + 1) hi).2 (by omega)
  have h4 := h2.1
  simp only [Nat.add_sub_cancel] at h3
  omega
theorem shE_rs {op : Int} {rs : List (UInt8 × UInt8)} {nm : List UInt8} {n : Nat} {mn mx : Int} (h : shE op rs nm n mn mx = 0) (ho : op = 1) : 0 < rs.length ∧ rs.length ≤ 1000000 := by
 subst ho
 unfold shE at h
 split at h
 ·cases h
 ·next hs =>
  rw [shp_1] at hs
  have hb : srtB rs = true := by
   cases hb : srtB rs with
   | true => rfl
   | false => rw [hb] at hs; simp at hs
  unfold srtB at hb
  have h2 := @of_decide_eq_true _ (Classical.propDecidable _) hb
  refine ⟨h2.1, ?_⟩
  have h3 := srt_low h2.2 (rs.length - 1) (by omega)
  have h4 := (rs[rs.length - 1]'(by omega)).1.toNat_lt
  omega
end Go.Proofs.YtmpbjaodgajnfaaGreatDoor.Mt
namespace Go.Proofs.YtmpbjaodgajnfaaGreatDoor.Mt
def Okc (op : Int) (n : Nat) (mn mx : Int) : Prop := Ok1 op n mn mx ∧ (op ≠ 2 → op ≠ 3 → op ≠ 4 → op ≠ 5 → n = 0) ∧ n ≤ 400
mutual
def okC : NT → Prop
 | .node op rs _ ks mn mx => Okc op ks.length mn mx ∧ okD ks ∧ (op = 1 → 0 < rs.length ∧ rs.length ≤ 1000000)
def okD : List NT → Prop
 | [] => True
 | k :: ks => okC k ∧ okD ks
end
theorem okD_mem {ks : List NT} (h : okD ks) : ∀ i (hi : i < ks.length), okC ks[i] := by
 induction ks with
 | nil => intro i hi; simp at hi
 | cons k ks ih =>
  rw [okD] at h
  intro i hi
  cases i with
  | zero => exact h.1
  | succ i => exact ih h.2 i (by simpa using hi)
mutual
theorem okC_okN : ∀ t : NT, okC t → okN t
 | .node op rs nm ks mn mx, h => by
  rw [okC] at h
  rw [okN]
  exact ⟨h.1.1, okD_okL ks h.2.1, h.2.2⟩
theorem okD_okL : ∀ ks : List NT, okD ks → okL ks
 | [], _ => by rw [okL]; trivial
 | k :: ks, h => by
  rw [okD] at h
  rw [okL]
  exact ⟨okC_okN k h.1, okD_okL ks h.2⟩
end
def tmsI (mn mx : Int) : Int := if mx = -1 then mn + 1 else mx
mutual
def costN : NT → Nat
 | .node op _ _ ks mn mx => min (if op = 5 then costL ks + 2 else if op = 2 ∨ op = 3 then costL ks + ks.length else if op = 4 then 1 + (costL ks + 1) * (tmsI mn mx).toNat else 1) 4001
def costL : List NT → Nat
 | [] => 0
 | k :: ks => costN k + costL ks
end
theorem costN_le (t : NT) : costN t ≤ 4001 := by
 cases t
 rw [costN]
 exact Nat.min_le_right _ _
theorem costL_le : ∀ ks : List NT, costL ks ≤ ks.length * 4001
 | [] => by rw [costL]; omega
 | k :: ks => by
  rw [costL, List.length_cons]
  have := costN_le k
  have := costL_le ks
  omega
theorem costL_drop {ks : List NT} {i : Nat} (h : i < ks.length) : costL (ks.drop i) = costN ks[i] + costL (ks.drop (i + 1)) := by
 rw [List.drop_eq_getElem_cons h, costL]
theorem min_lt {a : Nat} (h : min a 4001 ≤ 4000) : min a 4001 = a := by omega
theorem times_len {f : Nat → List Nm → Cmp} {c : Nat} (h : ∀ b ns, (f b ns).1.length ≤ c) : ∀ n b ns, (times f n b ns).1.length ≤ n * c
 | 0, _, _ => by simp [times]
 | n + 1, b, ns => by
  rw [times]
  simp only [List.length_append]
  have := h b ns
  have := times_len h n (b + (f b ns).1.length) (f b ns).2
  rw [Nat.succ_mul]
  omega
theorem opts_le {f : Nat → List Nm → Cmp} {c : Nat} (h : ∀ b ns, (f b ns).1.length ≤ c) (E : Nat) : ∀ n b ns, (opts f E n b ns).1.length ≤ n * (c + 1)
 | 0, _, _ => by simp [opts]
 | n + 1, b, ns => by
  rw [opts]
  simp only [List.length_append, List.length_cons]
  have := h (b + 1) ns
  have := opts_le h E n (b + 1 + (f (b + 1) ns).1.length) (f (b + 1) ns).2
  rw [Nat.succ_mul]
  omega
mutual
theorem compN_le : ∀ t : NT, okN t → costN t ≤ 4000 → ∀ b ns, (compN t b ns).1.length ≤ 2 * costN t
 | .node op rs nm kids mn mx, hok, h, b, ns => by
  rw [okN] at hok
  rw [costN] at h ⊢
  rw [min_lt h]
  have h := min_lt h ▸ h
  rw [compN]
  by_cases h1 : op = 1
  ·subst h1
   simp
  rw [if_neg h1]
  by_cases h6 : op = 6
  ·subst h6
   simp
  rw [if_neg h6]
  by_cases h7 : op = 7
  ·subst h7
   simp
  rw [if_neg h7]
  by_cases h2 : op = 2
  ·subst h2
   simp only [show ¬ ((2 : Int) = 5) by decide, if_false, true_or, if_true] at h ⊢
   have := compL_le kids hok.2.1 (by omega) b ns
   omega
  rw [if_neg h2]
  by_cases h3 : op = 3
  ·subst h3
   simp only [show ¬ ((3 : Int) = 5) by decide, if_false, or_true, if_true] at h ⊢
   have := compA_le (b + (compA 0 kids b ns).1.length) kids hok.2.1 (by omega) b ns
   omega
  rw [if_neg h3]
  by_cases h5 : op = 5
  ·subst h5
   simp only [if_true] at h ⊢
   have := compH_le kids hok.2.1 (by omega) (b + 1) (capL ns nm)
   simp only [List.length_append, List.length_cons, List.length_nil]
   omega
  rw [if_neg h5]
  by_cases h4 : op = 4
  ·subst h4
   simp only [show ¬ ((4 : Int) = 5) by decide, show ¬ ((4 : Int) = 2 ∨ (4 : Int) = 3) by decide, if_false, if_true] at h ⊢
   by_cases h0 : mx = 0
   ·rw [if_pos h0]
    simp
   ·rw [if_neg h0]
    obtain ⟨_, b0, b1, b2⟩ := hok.1.2.2 rfl
    obtain ⟨m, rfl⟩ := Int.eq_ofNat_of_zero_le b0
    unfold rept
    rw [Int.toNat_natCast]
    by_cases hx : mx = -1
    ·subst hx
     rw [if_pos rfl]
     have ht : (tmsI (m : Int) (-1)).toNat = m + 1 := by unfold tmsI; rw [if_pos rfl]; omega
     rw [ht] at h ⊢
     have hc : costL kids ≤ 4000 := by
      have : costL kids + 1 ≤ (costL kids + 1) * (m + 1) := Nat.le_mul_of_pos_right _ (by omega)
      omega
     have ih := compH_le kids hok.2.1 hc
     have i1 := times_len ih m b ns
     unfold star
     simp only [List.length_append, List.length_cons, List.length_nil]
     have i2 := ih (b + (times (compH kids) m b ns).1.length + 2) (times (compH kids) m b ns).2
     have e : (costL kids + 1) * (m + 1) = m * costL kids + costL kids + m + 1 := by rw [Nat.add_mul, Nat.mul_add, Nat.mul_comm]; omega
     have e2 : m * (2 * costL kids) = 2 * (m * costL kids) := by rw [Nat.mul_left_comm]
     rw [e]
     omega
    ·rw [if_neg hx]
     obtain ⟨M, rfl⟩ := Int.eq_ofNat_of_zero_le (show 0 ≤ mx by omega)
     have ht : (tmsI (m : Int) (M : Int)).toNat = M := by unfold tmsI; rw [if_neg hx]; omega
     rw [ht] at h ⊢
     have hM : 1 ≤ M := by omega
     have hc : costL kids ≤ 4000 := by
      have : costL kids + 1 ≤ (costL kids + 1) * M := Nat.le_mul_of_pos_right _ hM
      omega
     have ih := compH_le kids hok.2.1 hc
     have i1 := times_len ih m b ns
     have hd : ((M : Int) - (m : Int)).toNat = M - m := by omega
     rw [hd]
     have i2 := opts_le ih (b + (times (compH kids) m b ns).1.length + (opts (compH kids) 0 (M - m) (b + (times (compH kids) m b ns).1.length) (times (compH kids) m b ns).2).1.length) (M - m) (b + (times (compH kids) m b ns).1.length) (times (compH kids) m b ns).2
     simp only [List.length_append]
     obtain ⟨d, rfl⟩ : ∃ d, M = m + d := ⟨M - m, by omega⟩
     rw [show m + d - m = d by omega] at i2 ⊢
     have e : (costL kids + 1) * (m + d) = m * costL kids + d * costL kids + m + d := by rw [Nat.add_mul, Nat.mul_add, Nat.mul_comm, Nat.mul_comm (costL kids) d]; omega
     have e2 : m * (2 * costL kids) = 2 * (m * costL kids) := by rw [Nat.mul_left_comm]
     have e3 : d * (2 * costL kids + 1) = 2 * (d * costL kids) + d := by rw [Nat.mul_add, Nat.mul_left_comm]; omega
     rw [e]
     omega
  ·rw [if_neg h4]
   simp
theorem compH_le : ∀ ks : List NT, okL ks → costL ks ≤ 4000 → ∀ b ns, (compH ks b ns).1.length ≤ 2 * costL ks
 | [], _, _, b, ns => by rw [compH]; simp
 | k :: ks, hok, h, b, ns => by
  rw [okL] at hok
  rw [costL] at h ⊢
  rw [compH]
  have := compN_le k hok.1 (by omega) b ns
  omega
theorem compL_le : ∀ ks : List NT, okL ks → costL ks ≤ 4000 → ∀ b ns, (compL ks b ns).1.length ≤ 2 * costL ks
 | [], _, _, b, ns => by rw [compL]; simp
 | k :: ks, hok, h, b, ns => by
  rw [okL] at hok
  rw [costL] at h ⊢
  rw [compL]
  simp only [List.length_append]
  have := compN_le k hok.1 (by omega) b ns
  have := compL_le ks hok.2 (by omega) (b + (compN k b ns).1.length) (compN k b ns).2
  omega
theorem compA_le (E : Nat) : ∀ ks : List NT, okL ks → costL ks ≤ 4000 → ∀ b ns, (compA E ks b ns).1.length ≤ 2 * costL ks + 2 * ks.length
 | [], _, _, b, ns => by rw [compA]; simp
 | [k], hok, h, b, ns => by
  rw [okL] at hok
  rw [costL] at h ⊢
  rw [compA]
  have := compN_le k hok.1 (by omega) b ns
  omega
 | k :: k2 :: ks, hok, h, b, ns => by
  rw [okL] at hok
  rw [costL] at h ⊢
  rw [compA_two]
  simp only [List.length_append, List.length_cons]
  have := compN_le k hok.1 (by omega) (b + 1) ns
  have := compA_le E (k2 :: ks) hok.2 (by omega) (b + 1 + (compN k (b + 1) ns).1.length + 1) (compN k (b + 1) ns).2
  rw [List.length_cons] at this
  omega
end
mutual
theorem nst_cost : ∀ t : NT, okN t → costN t ≤ 4000 → nst t ≤ costN t
 | .node op rs nm kids mn mx, hok, h => by
  rw [okN] at hok
  rw [costN] at h ⊢
  rw [min_lt h]
  have h := min_lt h ▸ h
  rw [nst]
  by_cases h23 : op = 2 ∨ op = 3
  ·have h5 : ¬ op = 5 := by omega
   rw [if_pos h23]
   rw [if_neg h5, if_pos h23] at h ⊢
   have := nstL_cost kids hok.2.1 (by omega)
   omega
  rw [if_neg h23]
  by_cases h5 : op = 5
  ·rw [if_pos h5]
   rw [if_pos h5] at h ⊢
   have := nstH_cost kids hok.2.1 (by omega)
   omega
  rw [if_neg h5]
  rw [if_neg h5, if_neg h23] at h ⊢
  by_cases h4 : op = 4
  ·subst h4
   simp only [if_true] at h ⊢
   by_cases h0 : mx = 0
   ·rw [if_pos h0]; omega
   rw [if_neg h0]
   obtain ⟨_, b0, b1, b2⟩ := hok.1.2.2 rfl
   have ht : 1 ≤ (tmsI mn mx).toNat := by unfold tmsI; split <;> omega
   have : costL kids + 1 ≤ (costL kids + 1) * (tmsI mn mx).toNat := Nat.le_mul_of_pos_right _ ht
   have := nstH_cost kids hok.2.1 (by omega)
   split <;> omega
  ·rw [if_neg h4]; omega
theorem nstH_cost : ∀ ks : List NT, okL ks → costL ks ≤ 4000 → nstH ks ≤ costL ks
 | [], _, _ => by rw [nstH]; omega
 | k :: ks, hok, h => by
  rw [okL] at hok
  rw [costL] at h ⊢
  rw [nstH]
  have := nst_cost k hok.1 (by omega)
  omega
theorem nstL_cost : ∀ ks : List NT, okL ks → costL ks ≤ 4000 → nstL ks ≤ costL ks
 | [], _, _ => by rw [nstL]; omega
 | k :: ks, hok, h => by
  rw [okL] at hok
  rw [costL] at h ⊢
  rw [nstL]
  have := nst_cost k hok.1 (by omega)
  have := nstL_cost ks hok.2 (by omega)
  omega
end
def NdF (fn : List Nm → List Nm) : Prop := ∀ ns, ns.Nodup → (fn ns).Nodup
theorem NdF.times {fn : List Nm → List Nm} (h : NdF fn) : ∀ n, NdF (timesN fn n)
 | 0, _, hx => hx
 | n + 1, ns, hx => by
  rw [timesN]
  exact NdF.times h n _ (h ns hx)
theorem capL_nd (nm : Nm) : NdF fun ns => capL ns nm := by
 intro ns h
 simp only [capL]
 split
 ·exact h
 ·next hc =>
  rw [List.nodup_append]
  refine ⟨h, by simp, fun a ha b hb => ?_⟩
  rw [List.mem_singleton] at hb
  subst hb
  rintro rfl
  exact hc (by simpa using ha)
mutual
theorem capsN_nd : ∀ t : NT, NdF (capsN t)
 | .node op rs nm kids mn mx, ns, h => by
  rw [capsN]
  split
  ·exact capsL_nd kids _ (capL_nd nm ns h)
  ·exact capsL_nd kids ns h
theorem capsL_nd : ∀ ks : List NT, NdF (capsL ks)
 | [], ns, h => by rw [capsL]; exact h
 | k :: ks, ns, h => by
  rw [capsL]
  exact capsL_nd ks _ (capsN_nd k ns h)
end
mutual
theorem nsN_nd : ∀ t : NT, NdF (nsN t)
 | .node op rs nm kids mn mx, ns, h => by
  have hH := nsH_nd kids
  rw [nsN]
  by_cases h0 : op = 1
  ·rw [if_pos h0]; exact h
  rw [if_neg h0]
  by_cases h2 : op = 6
  ·rw [if_pos h2]; exact h
  rw [if_neg h2]
  by_cases h3 : op = 7
  ·rw [if_pos h3]; exact h
  rw [if_neg h3]
  by_cases h4 : op = 2
  ·rw [if_pos h4]; exact nsL_nd kids ns h
  rw [if_neg h4]
  by_cases h5 : op = 3
  ·rw [if_pos h5]; exact nsL_nd kids ns h
  rw [if_neg h5]
  by_cases h6 : op = 5
  ·rw [if_pos h6]; exact hH _ (capL_nd nm ns h)
  rw [if_neg h6]
  by_cases h7 : op = 4
  ·rw [if_pos h7]
   by_cases h8 : mx = 0
   ·rw [if_pos h8]; exact capsL_nd _ ns h
   ·rw [if_neg h8]
    split
    ·exact hH _ (NdF.times hH _ ns h)
    ·exact NdF.times hH _ _ (NdF.times hH _ ns h)
  ·rw [if_neg h7]; exact h
theorem nsH_nd : ∀ ks : List NT, NdF (nsH ks)
 | [], ns, h => by rw [nsH]; exact h
 | k :: ks, ns, h => by rw [nsH]; exact nsN_nd k ns h
theorem nsL_nd : ∀ ks : List NT, NdF (nsL ks)
 | [], ns, h => by rw [nsL]; exact h
 | k :: ks, ns, h => by rw [nsL]; exact nsL_nd ks _ (nsN_nd k ns h)
end
theorem nodup_le : ∀ {l m : List Nm}, l.Nodup → (∀ x ∈ l, x ∈ m) → l.length ≤ m.length
 | [], m, _, _ => Nat.zero_le _
 | a :: l, m, hn, hs => by
  rw [List.nodup_cons] at hn
  have ha := hs a (by simp)
  have h1 := nodup_le (m := m.erase a) hn.2 fun x hx => by
   have hne : x ≠ a := by rintro rfl; exact hn.1 hx
   rw [List.mem_erase_of_ne hne]
   exact hs x (List.mem_cons_of_mem _ hx)
  have h2 := List.length_erase_of_mem ha
  have h3 := List.length_pos_of_mem ha
  rw [List.length_cons]
  omega
theorem nsN_len (t : NT) : (nsN t []).length ≤ (prN t).length := by
 refine nodup_le (nsN_nd t [] List.nodup_nil) fun x hx => ?_
 rcases nsN_sb t [] x hx with h | h
 ·cases h
 ·exact h
theorem shE_okc {op : Int} {rs : List (UInt8 × UInt8)} {nm : List UInt8} {n : Nat} {mn mx : Int} (h : shE op rs nm n mn mx = 0) (hn : n ≤ 400) : Okc op n mn mx := by
 refine ⟨shE_ok h, fun h2 h3 h4 h5 => ?_, hn⟩
 unfold shE at h
 split at h
 ·cases h
 ·next hs =>
  unfold shpB at hs
  by_cases h0 : op = 0 ∨ op = 6 ∨ op = 7
  ·rw [if_pos h0] at hs
   simp at hs
   exact hs.1
  ·rw [if_neg h0] at hs
   by_cases h1 : op = 1
   ·rw [if_pos h1] at hs
    simp at hs
    exact hs.1
   ·rw [if_neg h1, if_neg (by omega), if_neg h4, if_neg h5] at hs
    simp at hs
theorem ckNs_more : ∀ (ks : List NT) (d c : Nat) (ns : List Nm), (ckNs ks d c ns).2.2 = 0 → c + ks.length ≤ (ckNs ks d c ns).1
 | [], d, c, ns, _ => by rw [ckNs]; simp
 | k :: ks, d, c, ns, h => by
  rw [ckNs] at h ⊢
  split at h
  ·next h1 => exact absurd h h1
  ·next h1 =>
   rw [if_neg h1]
   have := ckNs_more ks d _ _ h
   have := (ckN_shift k d c d c ns ns (Nat.le_refl _) (Nat.le_refl _) (by simpa using h1)).2.2.2
   rw [List.length_cons]
   omega
mutual
theorem ckN_okC : ∀ (t : NT) (d c : Nat) (ns : List Nm), (ckN t d c ns).2.2 = 0 → (ckN t d c ns).1 ≤ 400 → okC t
 | .node op rs nm ks mn mx, d, c, ns, h, h4 => by
  rw [ckN] at h h4
  split at h
  ·cases h
  ·next g1 =>
   rw [if_neg g1] at h4
   split at h
   ·cases h
   ·next g2 =>
    rw [if_neg g2] at h4
    split at h
    ·next h1 => exact absurd h h1
    ·next h1 =>
     rw [if_neg h1] at h4
     rw [okC]
     have := ckNs_more ks _ _ _ h
     exact ⟨shE_okc (by simpa using h1) (by omega), ckN_okD ks _ _ _ h h4, shE_rs (by simpa using h1)⟩
theorem ckN_okD : ∀ (ks : List NT) (d c : Nat) (ns : List Nm), (ckNs ks d c ns).2.2 = 0 → (ckNs ks d c ns).1 ≤ 400 → okD ks
 | [], _, _, _, _, _ => by rw [okD]; trivial
 | k :: ks, d, c, ns, h, h4 => by
  rw [ckNs] at h h4
  split at h
  ·next h1 => exact absurd h h1
  ·next h1 =>
   rw [if_neg h1] at h4
   rw [okD]
   have hm := ckNs_more ks _ _ _ h
   exact ⟨ckN_okC k _ _ _ (by simpa using h1) (by omega), ckN_okD ks _ _ _ h h4⟩
end
theorem ckE_okC {t : NT} (h : ckE t = 0) : okC t := by
 obtain ⟨h0, _, _⟩ := ckE_zero h
 exact ckN_okC t 0 0 [] h0 ((ckN_ok (SizeOf.sizeOf t + 1) t 0 0 [] (by omega) (by omega) (by simp)).2.2.1 h0)
end Go.Proofs.YtmpbjaodgajnfaaGreatDoor.Mt
namespace Go.Proofs.YtmpbjaodgajnfaaGreatDoor
open Go.RowKit
section
variable {w0 : World} {s : List UInt8} {g : Nat} {F F' : Nat → Prop} {code : List Mt.Ins} {names : List (List UInt8)} {lp : Nat} {W W' : World}
theorem PgS.keep (hp : PgS w0 s g F code names lp W) (hb : ∀ b, b < W.heap.size → ¬ F b → W'.heap[b]? = W.heap[b]?) (hF : ∀ b, F' b → b < W'.heap.size ∧ (b < W.heap.size → F b)) : PgS w0 s g F' code names lp W' := by
 obtain ⟨cv, nv, uss, h⟩ := hp
 exact ⟨cv, nv, uss,
  {
   head := (hb g (heap_lt h.head) h.out).trans h.head
   len := h.len
   ins := h.ins
   crow := own_block h.crow fun b hv => hb b (own_lt h.crow hv) (h.cout b hv).1
   nrow := own_block h.nrow fun b hv => hb b (own_lt h.nrow hv) (h.nout b hv).1
   cout := fun k hk => ⟨fun hf => (h.cout k hk).1 ((hF k hf).2 (own_lt h.crow hk)), (h.cout k hk).2⟩
   nout := fun k hk => ⟨fun hf => (h.nout k hk).1 ((hF k hf).2 (own_lt h.nrow hk)), (h.nout k hk).2⟩
   out := fun hf => h.out ((hF g hf).2 (heap_lt h.head))
   bnd := fun b hf => (hF b hf).1 }⟩
theorem PgS.weak (hp : PgS w0 s g F code names lp W) (hF : ∀ b, F' b → F b) : PgS w0 s g F' code names lp W := by
 have hb : ∀ b, F b → b < W.heap.size := by obtain ⟨_, _, _, h⟩ := hp; exact h.bnd
 exact hp.keep (fun _ _ _ => rfl) (fun b h => ⟨hb b (hF b h), fun _ => hF b h⟩)
theorem PgS.bnd (hp : PgS w0 s g F code names lp W) : ∀ b, F b → b < W.heap.size := by obtain ⟨_, _, _, h⟩ := hp; exact h.bnd
theorem PgS.glt (hp : PgS w0 s g F code names lp W) : g < W.heap.size ∧ ¬ F g := by obtain ⟨_, _, _, h⟩ := hp; exact ⟨heap_lt h.head, h.out⟩
theorem PgS.c0 (hp : PgS w0 s g F code names lp W) : ∃ a c, W.cell? ⟨g, 0, none⟩ = some (.slice a code.length c) := by
 obtain ⟨_, _, _, h⟩ := hp
 obtain ⟨a, c, e⟩ := h.c0s
 exact ⟨a, c, by rw [h.c0, e]⟩
end
theorem GoF.same {F F1 : Nat → Prop} {W W' : World} (h : GoF F F1 W W') : GoF F F W W' := ⟨h.kp, fun _ h => h⟩
theorem GoF.low {F F1 : Nat → Prop} {W W' : World} (h : GoF F F1 W W') {B : Nat} (hF : ∀ b, b < B → F b) (hB : B ≤ W.heap.size) : Below B W W' := ⟨h.kp.os, h.kp.tape, h.kp.output, h.kp.size, fun k hk => h.kp.block k (hF k hk) (Nat.lt_of_lt_of_le hk hB)⟩
theorem GoF.drew (F : Nat → Prop) (W : World) : GoF F F W W.drew := ⟨⟨rfl, rfl, rfl, Nat.le_refl _, fun _ _ _ => rfl⟩, fun _ h => h⟩
def EdR (x : Nat) (us : List Value) : Prop := us = [.int .i64 (x : Int)]
def EO (W : World) (eds : List Nat) (ev : Value) : Prop := OR 0 3 1 EdR W eds ev
def Fe (F : Nat → Prop) (ev : Value) (b : Nat) : Prop := F b ∨ ev.ownBlock = some b
theorem infoI : (Tryz.prog.info? 3).map (fun i => (i.zero, i.size, i.bytes)) = some (some (.int .i64 0), 1, 8) := by kernel_rfl
theorem EO.lt {W : World} {eds : List Nat} {ev : Value} (h : EO W eds ev) {b : Nat} (hb : ev.ownBlock = some b) : b < W.heap.size := by
 obtain ⟨⟨uss, _, _, ho⟩, _⟩ := h
 exact own_lt ho hb
theorem EO.go {W W' : World} {eds : List Nat} {ev : Value} (h : EO W eds ev) (hb : ∀ b, ev.ownBlock = some b → W'.heap[b]? = W.heap[b]?) : EO W' eds ev := by
 obtain ⟨⟨uss, h1, h2, ho⟩, hs⟩ := h
 exact ⟨⟨uss, h1, h2, own_block ho hb⟩, hs⟩
theorem EO.sl {W : World} {eds : List Nat} {ev : Value} (h : EO W eds ev) : ∃ a c, ev = .slice a eds.length c := by
 obtain ⟨⟨uss, _, _, _, ⟨h1, h2⟩ | ⟨q, cap, cur, h1, _⟩⟩, _⟩ := h
 ·exact ⟨none, 0, by rw [h1, h2]⟩
 ·exact ⟨_, _, h1⟩
theorem EO.at {W : World} {eds : List Nat} {ev : Value} (h : EO W eds ev) {i : Nat} (hi : i < eds.length) : ∃ q c, ev = .slice (some ⟨q, 0, none⟩) eds.length c ∧ q < W.heap.size ∧ W.cell? ⟨q, i, none⟩ = some (.int .i64 ((eds[i] : Nat) : Int)) := by
 have hrow := h
 obtain ⟨⟨uss, hlen, hel, _, ⟨h1, h2⟩ | ⟨q, cap, cur, h1, _, hg, _, _, hcs, htk⟩⟩, _⟩ := h
 ·omega
 ·have h3 := (hel i hi (by omega)).2
  unfold EdR at h3
  have e := flat_at 1 uss (fun u hu => by obtain ⟨j, hj, rfl⟩ := List.getElem_of_mem hu; exact (hel j (by omega) hj).1) i 0 (by omega) (by decide)
  rw [← htk, List.getElem?_take_of_lt (by omega), h3] at e
  refine ⟨q, cap, h1, heap_lt hg, ?_⟩
  rw [Lib.cell_of_heap hg]
  simpa using e
theorem ends_push {W : World} {eds : List Nat} {ev : Value} (h : EO W eds ev) (hl : eds.length ≤ 100000) (x : Nat) : ∃ ev' W' a c, ev' = .slice a (eds.length + 1) c ∧ (Builtin.append_ #[53, 53] 53 #[ev, .slice (some ⟨W.heap.size, 0, none⟩) 1 1]).run Tryz.prog (W.alloc (.cells #[.int .i64 (x : Int)] 3)) = .ok ev' W' ∧ EO W' (eds ++ [x]) ev' ∧
  (∀ F : Nat → Prop, (∀ b, ev.ownBlock = some b → ¬ F b) → Kp F W W') ∧ (∀ b, b < W.heap.size → ev.ownBlock ≠ some b → W'.heap[b]? = W.heap[b]?) ∧ (∀ b, ev'.ownBlock = some b → ev.ownBlock = some b ∨ W.heap.size ≤ b) := by
 obtain ⟨i0, hi, hz0, hz1, hz2⟩ := info_parts infoI
 obtain ⟨Wb, hWb⟩ : ∃ Wb, W.alloc (.cells #[.int .i64 (x : Int)] 3) = Wb := ⟨_, rfl⟩
 have hbb : Below W.heap.size W Wb := by rw [← hWb]; exact (Below.refl _ _).alloc (Nat.le_refl _) _
 have hnb : Wb.heap[W.heap.size]? = some (.cells #[.int .i64 (x : Int)] 3 (0, 0)) := by rw [← hWb]; exact Deep.blk_alloc_new W _
 have hb : EO Wb eds ev := h.go fun b hb => hbb.block b (h.lt hb)
 obtain ⟨⟨uss, h1, h2, ho⟩, hs⟩ := hb
 obtain ⟨ev', W', hrun, hown, hgr, _, hnew⟩ := run_append_own2 (P := Tryz.prog) (w := Wb) 0 53 53 3 i0 (.int .i64 0) 1 8 Tryz.underlying53 hi hz0 hz1 hz2 rfl (by decide) ev eds.length _ ho ⟨W.heap.size, 0, none⟩ 1 1 [.int .i64 (x : Int)] rfl (World.news_of_block hnb) (by intro u hu; simp only [List.mem_cons, List.not_mem_nil, or_false] at hu; subst hu; rfl) (by unfold maxLen; omega) (by omega) (Nat.zero_le _)
 have hsl : ∃ a c, ev' = .slice a (eds.length + 1) c := by
  obtain ⟨_, ⟨h1, h2⟩ | ⟨q, cap, cur, h1, _⟩⟩ := hown
  ·omega
  ·exact ⟨_, _, h1⟩
 obtain ⟨a, c, hsl⟩ := hsl
 rw [hWb]
 have hblk : ∀ b, b < W.heap.size → ev.ownBlock ≠ some b → W'.heap[b]? = W.heap[b]? := fun b hl hne => (hgr.block b (Nat.lt_of_lt_of_le hl hbb.size) (fun e => hne e.symm)).trans (hbb.block b hl)
 refine ⟨ev', W', a, c, hsl, hrun, ⟨⟨uss ++ [[.int .i64 (x : Int)]], by simp [h1], fun i hi hi' => ?_, ?_⟩, by simp; omega⟩, fun F hF => ⟨hgr.os.trans hbb.os, hgr.tape.trans hbb.tape, hgr.output.trans hbb.output, Nat.le_trans hbb.size hgr.size, fun b hb hl => hblk b hl (fun e => hF b e hb)⟩, hblk, fun b hb => (hnew b hb).imp id (fun h => Nat.le_trans hbb.size h)⟩
 ·by_cases e : i < eds.length
  ·rw [List.getElem_append_left e, List.getElem_append_left (by omega)]
   exact h2 i e (by omega)
  ·obtain rfl : i = eds.length := by simp at hi; omega
   rw [List.getElem_append_right (by omega), List.getElem_append_right (by omega)]
   simp [h1, EdR]
 ·rw [List.length_append, List.length_singleton, List.flatten_append]
  simpa using hown
end Go.Proofs.YtmpbjaodgajnfaaGreatDoor
namespace Go.Proofs.YtmpbjaodgajnfaaGreatDoor
open Go.RowKit
def KAt (w : World) (kids : List NT) (a : Option Addr) : Prop := ∀ i (h : i < kids.length), ∃ blk off op' ra' rn' rc' nm' a' n' c' mn' mx', a = some ⟨blk, off, none⟩ ∧ blk < w.heap.size ∧ w.cell? ⟨blk, off + i * 6, none⟩ = some (.int .i64 op') ∧ w.cell? ⟨blk, off + i * 6 + 1, none⟩ = some (.slice ra' rn' rc') ∧
   w.cell? ⟨blk, off + i * 6 + 2, none⟩ = some (.string ⟨(nm' : List UInt8).toArray⟩) ∧ w.cell? ⟨blk, off + i * 6 + 3, none⟩ = some (.slice a' n' c') ∧ w.cell? ⟨blk, off + i * 6 + 4, none⟩ = some (.int .i64 mn') ∧ w.cell? ⟨blk, off + i * 6 + 5, none⟩ = some (.int .i64 mx') ∧
   NAt w kids[i] (.agg #[.int .i64 op', .slice ra' rn' rc', .string ⟨nm'.toArray⟩, .slice a' n' c', .int .i64 mn', .int .i64 mx'])
def NodP (w0 : World) (s : List UInt8) (g : Nat) (F : Nat → Prop) (code : List Mt.Ins) (lp : Nat) (c : Mt.Cmp) (q : Nat) (W : World) (e : Ending) (W' : World) : Prop := e = .returned (.tuple #[]) ∧ PgS w0 s g F (code ++ c.1) c.2 (max lp q) W' ∧ GoF F F W W'
structure Pre (w0 : World) (s : List UInt8) (g : Nat) (F : Nat → Prop) (code : List Mt.Ins) (names : List (List UInt8)) (lp : Nat) (W : World) : Prop where
 low : ∀ b, b < w0.heap.size → F b
 bl : Below w0.heap.size w0 W
 ps : PgS w0 s g F code names lp W
def NodAt (w0 : World) (s : List UInt8) (g : Nat) (t : NT) : Prop := ∀ (v : Value) (k : Nat) (F : Nat → Prop) (code : List Mt.Ins) (names : List (List UInt8)) (lp : Nat) (W : World), NAt w0 t v → Mt.okN t → Pre w0 s g F code names lp W → code.length + (Mt.compN t code.length names).1.length ≤ 100000 → (Mt.compN t code.length names).2.length ≤ 100000 → k + Mt.nst t ≤ 5000 →
 Calls Tryz.prog 82 #[.pointer (some ⟨g, 0, none⟩), v, .int .i64 (k : Int)] W (NodP w0 s g F code lp (Mt.compN t code.length names) (k + Mt.nst t) W)
theorem Mt.nsN_le (t : NT) (ns : List (List UInt8)) : ns.length ≤ (Mt.nsN t ns).length := (Mt.denN_mk [] t ns).1
theorem Mt.nsL_le : ∀ (ks : List NT) (ns : List (List UInt8)), ns.length ≤ (Mt.nsL ks ns).length
 | [], ns => by rw [Mt.nsL]; exact Nat.le_refl _
 | k :: ks, ns => by rw [Mt.nsL]; exact Nat.le_trans (Mt.nsN_le k ns) (Mt.nsL_le ks _)
theorem Mt.compN_names (t : NT) (b : Nat) (ns : List (List UInt8)) : (Mt.compN t b ns).2 = Mt.nsN t ns := (Mt.compN_sem [] 0 t [] b ns).1
theorem Mt.compA_names (E : Nat) (ks : List NT) (b : Nat) (ns : List (List UInt8)) : (Mt.compA E ks b ns).2 = Mt.nsL ks ns := (Mt.compA_sem [] 0 E ks [] b ns).1
section
variable {w0 : World} {s : List UInt8} {g : Nat} {F : Nat → Prop} {code code' : List Mt.Ins} {names names' : List (List UInt8)} {lp lp' : Nat} {W W' : World}
theorem Pre.go (h : Pre w0 s g F code names lp W) (hg : GoF F F W W') (hp : PgS w0 s g F code' names' lp' W') : Pre w0 s g F code' names' lp' W' := ⟨h.low, h.bl.trans (hg.low h.low h.bl.size), hp⟩
theorem Pre.below (h : Pre w0 s g F code names lp W) (hb : Below W.heap.size W W') : Pre w0 s g (Fg F W W') code names lp W' := ⟨fun b hl => .inl (h.low b hl), h.bl.trans (hb.mono h.bl.size), h.ps.below hb⟩
end
theorem PgS.putAt {w0 : World} {s : List UInt8} {g : Nat} {F : Nat → Prop} {pre post : List Mt.Ins} {i : Mt.Ins} {names : List (List UInt8)} {lp : Nat} {W : World} (h : PgS w0 s g F (pre ++ i :: post) names lp W) (b n : Nat) (hb : pre.length = b) (hn : (pre ++ i :: post).length = n) (j : Nat) (hj : j = 1 ∨ j = 2) :
  ∃ q cap m, W.cell? ⟨g, 0, none⟩ = some (.slice (some ⟨q, 0, none⟩) n cap) ∧ b < n ∧ W.cell? ⟨q, b * 4 + j, none⟩ = some (.int .i64 ((m : Nat) : Int)) ∧ W.frozen? ⟨q, b * 4 + j, none⟩ = false ∧ ∀ (v : Nat) (z : Int), z = (v : Int) → PgS w0 s g F (pre ++ Mt.up j v i :: post) names lp (W.setCell ⟨q, b * 4 + j, none⟩ (.int .i64 z)).drew ∧ GoF F F W (W.setCell ⟨q, b * 4 + j, none⟩ (.int .i64 z)).drew := by
 have hlt : b < (pre ++ i :: post).length := by simp; omega
 obtain ⟨q, cap, hq⟩ := h.put hlt j hj
 obtain ⟨m, hm⟩ := hq.cell
 refine ⟨q, cap, m, by rw [hq.c0, hn], by omega, hm, hq.soft, fun v z hz => ?_⟩
 subst hz
 have h2 := hq.done v
 rw [Mt.modify_mid _ _ _ _ _ hb.symm] at h2
 exact h2
theorem GoF.blk {F F' : Nat → Prop} {W W' : World} (h : GoF F F' W W') {b : Nat} {x : Obj} (hb : F b) (hx : W.heap[b]? = some x) : W'.heap[b]? = some x := (h.kp.block b hb (heap_lt hx)).trans hx
theorem rg_nil (w : World) : RgAt w [] (.slice none 0 0) := ⟨none, 0, rfl, by simp, fun i hi => by simp at hi⟩
theorem emit0_any (op x y : Nat) {w0 : World} {s : List UInt8} {g : Nat} {F : Nat → Prop} {code : List Mt.Ins} {names : List (List UInt8)} {lp : Nat} {W : World} (hp : PgS w0 s g F code names lp W) (hl : code.length ≤ 100000) :
  Calls Tryz.prog 83 #[.pointer (some ⟨g, 0, none⟩), .agg #[.int .i64 (op : Int), .int .i64 (x : Int), .int .i64 (y : Int), .slice none 0 0]] W fun e W' => e = .returned (.int .i64 (code.length : Int)) ∧ PgS w0 s g F (code ++ [⟨op, x, y, []⟩]) names lp W' ∧ GoF F F W W' :=
 emit_any w0 s g F code names lp ⟨op, x, y, []⟩ none 0 W hp ⟨rg_nil w0, by simp, fun _ => rfl⟩ hl
theorem box6 {W : World} {b : Nat} {u0 u1 u2 u3 u4 u5 : Value} {t : TypeId} {f : Nat × Nat} (h : W.heap[b]? = some (.cells #[u0, u1, u2, u3, u4, u5] t f)) : W.cell? ⟨b, 0, none⟩ = some u0 ∧ W.cell? ⟨b, 1, none⟩ = some u1 ∧ W.cell? ⟨b, 2, none⟩ = some u2 ∧ W.cell? ⟨b, 3, none⟩ = some u3 ∧ W.cell? ⟨b, 4, none⟩ = some u4 ∧ W.cell? ⟨b, 5, none⟩ = some u5 := by
 refine ⟨?_, ?_, ?_, ?_, ?_, ?_⟩ <;> (rw [Lib.cell_of_heap h]; rfl)
end Go.Proofs.YtmpbjaodgajnfaaGreatDoor
namespace Go.Proofs.YtmpbjaodgajnfaaGreatDoor
open Go.RowKit
theorem mul_nat (a b : Nat) : ((a : Int) + 1) * (b : Int) = (((a + 1) * b : Nat) : Int) := by push_cast; rfl
set_option maxRecDepth 1000000 in
set_option maxHeartbeats 8000000 in
theorem cost_aux (SZ : Nat) : ∀ (t : NT) (v : Value) (w : World), SizeOf.sizeOf t < SZ → Mt.okC t → NAt w t v →
  Calls Tryz.prog 109 #[v] w fun e w' => e = .returned (.int .i64 (Mt.costN t)) ∧ Below w.heap.size w w' := by
 induction SZ with
 | zero => intro t v w h _; omega
 | succ SZ ih =>
 intro t v w hN hok h
 obtain ⟨op, rs, nm, kids, mn, mx, ra, rc, a, c, rfl, rfl, hr, hnm, hk⟩ := h.open
 have hK : KAt w kids a := hk
 rw [Mt.okC] at hok
 obtain ⟨⟨⟨hs3, hs5, hs4⟩, hs0, hn4⟩, hokd, _⟩ := hok
 have IH := Lib.hid fun (i : Nat) (hi : i < kids.length) (W : World) (u : Value) (hu : NAt W kids[i] u) => ih kids[i] u W (by have := kid_lt (op := op) (rs := rs) (nm := nm) (mn := mn) (mx := mx) i hi; omega) (Mt.okD_mem hokd i hi) hu
 have HK := Lib.hid hK
 have H4 := Lib.hid hs4
 rw [Mt.costN]
 obtain ⟨nk, hnk⟩ : ∃ n, kids.length = n := ⟨_, rfl⟩
 obtain ⟨nr, hnr⟩ : ∃ n, rs.length = n := ⟨_, rfl⟩
 have HNK := Lib.hid hnk
 rw [hnk] at hn4 hs4 H4
 rw [hnk, hnr]
 obtain ⟨Wa, hWa⟩ : ∃ Wa, w.alloc (.cells #[.int .i64 op, .slice ra nr rc, .string ⟨nm.toArray⟩, .slice a nk c, .int .i64 mn, .int .i64 mx] 33) = Wa := ⟨_, rfl⟩
 have HB0 : Hid (Below w.heap.size w Wa) := Lib.hid (by rw [← hWa]; exact (Below.refl _ _).alloc (Nat.le_refl _) _)
 have hbx : Wa.heap[w.heap.size]? = some (.cells #[.int .i64 op, .slice ra nr rc, .string ⟨nm.toArray⟩, .slice a nk c, .int .i64 mn, .int .i64 mx] 33 (0, 0)) := by rw [← hWa]; exact Deep.blk_alloc_new w _
 have HBX := Lib.hid hbx
 obtain ⟨b0, b1, b2, b3, b4, b5⟩ := box6 hbx
 obtain ⟨S, hS⟩ : ∃ S, Mt.costL kids = S := ⟨_, rfl⟩
 have hSb : S ≤ 400 * 4001 := by
  have := Mt.costL_le kids
  rw [hS, hnk] at this
  exact Nat.le_trans this (Nat.mul_le_mul_right _ hn4)
 have hS1 : nk = 1 → S ≤ 4001 := by
  rintro rfl
  have := Mt.costL_le kids
  rw [hS, hnk] at this
  omega
 have HS := Lib.hid hS
 have HS1 := Lib.hid hS1
 rw [hS]
 obtain ⟨Z, hZ⟩ : ∃ Z, min (if op = 5 then S + 2 else if op = 2 ∨ op = 3 then S + nk else if op = 4 then 1 + (S + 1) * (Mt.tmsI mn mx).toNat else 1) 4001 = Z := ⟨_, rfl⟩
 rw [hZ]
 have HZ := Lib.hid hZ
 clear hk h hr ih hN hnm hK hs3 hs5 hs4 hs0 hokd hnk hnr hbx hS hS1 hZ
 go_enter Tryz.func109, Tryz.ntmps109
 go_wp2_with fail
 go_loopw [3, 10] (fun n i wr => ∃ (m k : Nat), n = .int .i64 m ∧ i = .int .i64 k ∧ k ≤ nk ∧ Hid (m + Mt.costL (kids.drop k) = S) ∧ Hid (Below w.heap.size w wr) ∧ Hid (wr.heap[w.heap.size]? = some (.cells #[.int .i64 op, .slice ra nr rc, .string ⟨nm.toArray⟩, .slice a nk c, .int .i64 mn, .int .i64 mx] 33 (0, 0)))) (fun _ i _ => nk - (intOf i).toNat)
 case atStart => exact ⟨0, 0, rfl, rfl, by omega, Lib.hid (by rw [List.drop_zero, HS.out]; omega), HB0, HBX⟩
 case round =>
  obtain ⟨m, k, rfl, rfl, hkl, HQ, HB, HX⟩ := hrel
  obtain ⟨b0, b1, b2, b3, b4, b5⟩ := box6 HX.out
  by_cases hlt : k < nk
  ·have hkk : k < kids.length := by rw [HNK.out]; exact hlt
   obtain ⟨blk, off, op', ra', rn', rc', nm', a', n', c', mn', mx', rfl, hl, c0, c1, c2, c3, c4, c5, ht⟩ := HK.out k hkk
   have e0 := (HB.out.cell (p := ⟨blk, off + k * 6, none⟩) hl).trans c0
   have e1 := (HB.out.cell (p := ⟨blk, off + k * 6 + 1, none⟩) hl).trans c1
   have e2 := (HB.out.cell (p := ⟨blk, off + k * 6 + 2, none⟩) hl).trans c2
   have e3 := (HB.out.cell (p := ⟨blk, off + k * 6 + 3, none⟩) hl).trans c3
   have e4 := (HB.out.cell (p := ⟨blk, off + k * 6 + 4, none⟩) hl).trans c4
   have e5 := (HB.out.cell (p := ⟨blk, off + k * 6 + 5, none⟩) hl).trans c5
   have hlw : blk < wr.heap.size := Nat.lt_of_lt_of_le hl HB.out.size
   have i1 : (k : Int) < (nk : Int) := by omega
   obtain ⟨Wb, hWb⟩ : ∃ Wb, wr.alloc (.cells #[.int .i64 op', .slice ra' rn' rc', .string ⟨nm'.toArray⟩, .slice a' n' c', .int .i64 mn', .int .i64 mx'] 33) = Wb := ⟨_, rfl⟩
   have hbb : Below wr.heap.size wr Wb := by rw [← hWb]; exact (Below.refl _ _).alloc (Nat.le_refl _) _
   obtain ⟨q0, q1, q2, q3, q4, q5⟩ := box6 (show Wb.heap[wr.heap.size]? = some (.cells #[.int .i64 op', .slice ra' rn' rc', .string ⟨nm'.toArray⟩, .slice a' n' c', .int .i64 mn', .int .i64 mx'] 33 (0, 0)) by rw [← hWb]; exact Deep.blk_alloc_new wr _)
   have HBA := Lib.hid (HB.out.trans (hbb.mono HB.out.size))
   have hwx : w.heap.size < wr.heap.size := heap_lt HX.out
   have HXA := Lib.hid ((hbb.block _ hwx).trans HX.out)
   have HI := Lib.hid (IH.out k hkk _ _ (NAt.later HBA.out _ _ ht))
   have hq := HQ.out
   rw [Mt.costL_drop hkk] at hq
   have hcl := Mt.costN_le kids[k]
   obtain ⟨x, hx⟩ : ∃ x, Mt.costN kids[k] = x := ⟨_, rfl⟩
   rw [hx] at HI hq hcl
   have HQ2 := Lib.hid hq
   have hms : m + x ≤ S := by omega
   clear c0 c1 c2 c3 c4 c5 ht hx hq hbb
   go_wp2_with fail
   refine HI.out.mono ?_
   rintro e w2 ⟨rfl, hb2⟩
   have HB3 := Lib.hid (HBA.out.trans (hb2.mono HBA.out.size))
   have HX3 := Lib.hid ((hb2.block _ (heap_lt HXA.out)).trans HXA.out)
   clear hb2
   go_wp2_with fail
   go_roundw
   case rel => exact ⟨m + x, k + 1, by go_num, by go_num, by omega, Lib.hid (by have := HQ2.out; omega), HB3, HX3⟩
   case measure => simp [intOf]; omega
  ·have hms : m = S := by have := HQ.out; rw [List.drop_eq_nil_of_le (by rw [HNK.out]; omega), Mt.costL] at this; omega
   subst hms
   by_cases o5 : op = 5
   ·subst o5
    have hz := HZ.out
    simp only [if_true] at hz
    have hmin : min ((m : Int) + 2) 4001 = (Z : Int) := by omega
    clear hz
    go_wp2_with fail
    go_ret
    exact ⟨rfl, HB.out⟩
   by_cases o2 : op = 2
   ·subst o2
    have hz := HZ.out
    simp only [show ¬ (2 : Int) = 5 by decide, true_or, if_true, if_false] at hz
    have hmin : min ((m : Int) + (nk : Int)) 4001 = (Z : Int) := by omega
    clear hz
    go_wp2_with fail
    go_ret
    exact ⟨rfl, HB.out⟩
   by_cases o3 : op = 3
   ·subst o3
    have hz := HZ.out
    simp only [show ¬ (3 : Int) = 5 by decide, or_true, if_true, if_false] at hz
    have hmin : min ((m : Int) + (nk : Int)) 4001 = (Z : Int) := by omega
    clear hz
    go_wp2_with fail
    go_ret
    exact ⟨rfl, HB.out⟩
   by_cases o4 : op = 4
   ·subst o4
    obtain ⟨g1, g2, g3, g4⟩ := H4.out rfl
    have hm4 : m ≤ 4001 := HS1.out g1
    subst g1
    have hz := HZ.out
    simp only [show ¬ (4 : Int) = 5 by decide, show ¬ ((4 : Int) = 2 ∨ (4 : Int) = 3) by decide, if_true, if_false] at hz
    obtain ⟨mi, rfl⟩ := Int.eq_ofNat_of_zero_le g2
    by_cases hx : mx = -1
    ·subst hx
     have ht : (Mt.tmsI (mi : Int) (-1)).toNat = mi + 1 := by unfold Mt.tmsI; rw [if_pos rfl]; omega
     rw [ht] at hz
     have hb : (m + 1) * (mi + 1) ≤ 4002 * 41 := Nat.mul_le_mul (by omega) (by omega)
     have hmul : ((m : Int) + 1) * ((mi : Int) + 1) = (((m + 1) * (mi + 1) : Nat) : Int) := by push_cast; rfl
     obtain ⟨P, hP⟩ : ∃ P, (m + 1) * (mi + 1) = P := ⟨_, rfl⟩
     rw [hP] at hz hb hmul
     have hmin : min (1 + (P : Int)) 4001 = (Z : Int) := by omega
     clear hz hP ht g4
     go_wp2_with fail
     go_ret
     exact ⟨rfl, HB.out⟩
    ·obtain ⟨M, rfl⟩ := Int.eq_ofNat_of_zero_le (show 0 ≤ mx by omega)
     have ht : (Mt.tmsI (mi : Int) (M : Int)).toNat = M := by unfold Mt.tmsI; rw [if_neg hx]; omega
     rw [ht] at hz
     have hz0 : ((M : Int) == -1) = false := by rw [beq_eq_false_iff_ne]; exact hx
     have hb : (m + 1) * M ≤ 4002 * 41 := Nat.mul_le_mul (by omega) (by omega)
     have hmul : ((m : Int) + 1) * (M : Int) = (((m + 1) * M : Nat) : Int) := mul_nat m M
     obtain ⟨P, hP⟩ : ∃ P, (m + 1) * M = P := ⟨_, rfl⟩
     rw [hP] at hz hb hmul
     have hmin : min (1 + (P : Int)) 4001 = (Z : Int) := by omega
     clear hz hP ht g4 hx
     go_wp2_with fail
     go_ret
     exact ⟨rfl, HB.out⟩
   ·have hz := HZ.out
    rw [if_neg o5, if_neg (by omega), if_neg o4] at hz
    have hz1 : Z = 1 := by omega
    subst hz1
    have z2 : (op == 2) = false := by rw [beq_eq_false_iff_ne]; exact o2
    have z3 : (op == 3) = false := by rw [beq_eq_false_iff_ne]; exact o3
    have z4 : (op == 4) = false := by rw [beq_eq_false_iff_ne]; exact o4
    have z5 : (op == 5) = false := by rw [beq_eq_false_iff_ne]; exact o5
    clear hz
    go_wp2_with fail
    go_ret
    exact ⟨rfl, HB.out⟩
theorem cost_any (t : NT) (v : Value) (w : World) (hok : Mt.okC t) (h : NAt w t v) :
  Calls Tryz.prog 109 #[v] w fun e w' => e = .returned (.int .i64 (Mt.costN t)) ∧ Below w.heap.size w w' := cost_aux _ t v w (Nat.lt_succ_self _) hok h
end Go.Proofs.YtmpbjaodgajnfaaGreatDoor
namespace Go.Proofs.YtmpbjaodgajnfaaGreatDoor
open Go.RowKit
end Go.Proofs.YtmpbjaodgajnfaaGreatDoor
namespace Go.Proofs.YtmpbjaodgajnfaaGreatDoor
open Go.RowKit
set_option maxRecDepth 1000000 in
set_option maxHeartbeats 4000000 in
theorem Cost_any (t : NT) (v : Value) (w : World) (h : NAt w t v) (hk : Kinds w) :
  Calls Tryz.prog 81 #[v] w fun e w' => e = .returned (.int .i64 (if ckE t = 0 then (Mt.costN t : Int) else 0)) ∧ Below w.heap.size w w' := by
 have h2 := h
 have hcl := Mt.costN_le t
 have hok := @Mt.ckE_okC t
 obtain ⟨op, rs, nm, kids, mn, mx, ra, rc, a, c, e0, rfl, _⟩ := h.open
 clear e0
 obtain ⟨nk, hnk⟩ : ∃ n, kids.length = n := ⟨_, rfl⟩
 obtain ⟨nr, hnr⟩ : ∃ n, rs.length = n := ⟨_, rfl⟩
 rw [hnk, hnr] at h2 ⊢
 obtain ⟨Wa, hWa⟩ : ∃ Wa, w.alloc (.cells #[.int .i64 op, .slice ra nr rc, .string ⟨nm.toArray⟩, .slice a nk c, .int .i64 mn, .int .i64 mx] 33) = Wa := ⟨_, rfl⟩
 have hb : Below w.heap.size w Wa := by rw [← hWa]; exact (Below.refl _ _).alloc (Nat.le_refl _) _
 have hbx : Wa.heap[w.heap.size]? = some (.cells #[.int .i64 op, .slice ra nr rc, .string ⟨nm.toArray⟩, .slice a nk c, .int .i64 mn, .int .i64 mx] 33 (0, 0)) := by rw [← hWa]; exact Deep.blk_alloc_new w _
 have HC := Lib.hid (check_any t _ Wa (NAt.later hb _ _ h2) ⟨Nat.lt_of_lt_of_le hk.1 hb.size, fun c hc => (hb.cell (p := ⟨1, c, none⟩) hk.1).trans (hk.2 c hc)⟩)
 have HB := Lib.hid hb
 have HX := Lib.hid hbx
 have HN := Lib.hid h2
 obtain ⟨b0, b1, b2, b3, b4, b5⟩ := box6 hbx
 obtain ⟨E, hE⟩ : ∃ E, ckE t = E := ⟨_, rfl⟩
 obtain ⟨Z, hZ⟩ : ∃ Z, (if ckE t = 0 then (Mt.costN t : Int) else 0) = Z := ⟨_, rfl⟩
 rw [hZ]
 rw [hE] at HC hok hZ
 have HZ := Lib.hid hZ
 clear hk hb hbx h2 h hnk hnr hE hZ
 go_enter Tryz.func81, Tryz.ntmps81
 go_wp2_with fail
 refine HC.out.mono ?_
 rintro e w2 ⟨rfl, hb2⟩
 have HB2 := Lib.hid (HB.out.trans (hb2.mono HB.out.size))
 have hx2 := (hb2.block _ (heap_lt HX.out)).trans HX.out
 obtain ⟨d0, d1, d2, d3, d4, d5⟩ := box6 hx2
 clear hb2 hx2
 by_cases h0 : E = 0
 ·subst h0
  have HK := Lib.hid (cost_any t _ w2 (hok rfl) (NAt.later HB2.out _ _ HN.out))
  obtain ⟨K, hK⟩ : ∃ K, Mt.costN t = K := ⟨_, rfl⟩
  have hZ := HZ.out
  rw [if_pos rfl] at hZ
  rw [hK] at HK hZ hcl
  subst hZ
  clear hok hK
  go_wp2_with fail
  refine HK.out.mono ?_
  rintro e w3 ⟨rfl, hb3⟩
  have HB3 := Lib.hid (HB2.out.trans (hb3.mono HB2.out.size))
  go_wp2_with fail
  go_ret
  exact ⟨rfl, HB3.out⟩
 ·have hz : ((E : Int) == 0) = false := by rw [beq_eq_false_iff_ne]; omega
  have hZ := HZ.out
  rw [if_neg h0] at hZ
  subst hZ
  clear hok
  go_wp2_with fail
  go_ret
  exact ⟨rfl, HB2.out⟩
end Go.Proofs.YtmpbjaodgajnfaaGreatDoor
namespace Go.Proofs.YtmpbjaodgajnfaaGreatDoor
open Go.RowKit
set_option maxHeartbeats 8000000 in
set_option maxRecDepth 1000000 in
theorem optional_any (w0 : World) (s : List UInt8) (g : Nat) (t : NT) (ih : NodAt w0 s g t) (v : Value) (k : Nat) (F : Nat → Prop) (code : List Mt.Ins) (names : List (List UInt8)) (lp : Nat) (W : World) (hv : NAt w0 t v) (hok : Mt.okN t) (hp : Pre w0 s g F code names lp W) (hl : code.length + 3 + (Mt.compN t (code.length + 2) names).1.length ≤ 100000) (hn : (Mt.compN t (code.length + 2) names).2.length ≤ 100000) (hk : k + 1 + Mt.nst t ≤ 5000) :
  Calls Tryz.prog 136 #[.pointer (some ⟨g, 0, none⟩), v, .int .i64 (k : Int)] W fun e W' => e = .returned (.int .i64 (code.length : Int)) ∧ PgS w0 s g F (code ++ (⟨1, code.length + 1, 0, []⟩ :: ⟨7, 0, 0, []⟩ :: (Mt.compN t (code.length + 2) names).1 ++ [⟨8, 0, 0, []⟩])) (Mt.compN t (code.length + 2) names).2 (max lp (k + 1 + Mt.nst t)) W' ∧ GoF F F W W' := by
 have hv2 := hv
 obtain ⟨op, rs, nm, kids, mn, mx, ra, rc, a, c, rfl, rfl, _, _, _⟩ := hv.open
 clear hv
 generalize hT : NT.node op rs nm kids mn mx = t at *
 obtain ⟨nk, hnk⟩ : ∃ n, kids.length = n := ⟨_, rfl⟩
 obtain ⟨nr, hnr⟩ : ∃ n, rs.length = n := ⟨_, rfl⟩
 rw [hnk, hnr] at hv2 ⊢
 clear hT hnk hnr
 obtain ⟨Wa, hWa⟩ : ∃ Wa, W.alloc (.cells #[.int .i64 op, .slice ra nr rc, .string ⟨nm.toArray⟩, .slice a nk c, .int .i64 mn, .int .i64 mx] 33) = Wa := ⟨_, rfl⟩
 have hba : Below W.heap.size W Wa := by rw [← hWa]; exact (Below.refl _ _).alloc (Nat.le_refl _) _
 have hbx : Wa.heap[W.heap.size]? = some (.cells #[.int .i64 op, .slice ra nr rc, .string ⟨nm.toArray⟩, .slice a nk c, .int .i64 mn, .int .i64 mx] 33 (0, 0)) := by rw [← hWa]; exact Deep.blk_alloc_new W _
 have HP1 := Lib.hid (hp.below hba)
 have HFb : Hid (Fg F W Wa W.heap.size) := Lib.hid (.inr ⟨Nat.le_refl _, heap_lt hbx⟩)
 have HG1 : Hid (GoF F (Fg F W Wa) W Wa) := Lib.hid (GoF.below hba)
 have HBX := Lib.hid hbx
 have HV := Lib.hid hv2
 clear hp hba hbx hv2
 generalize Fg F W Wa = F1 at HP1 HFb HG1
 obtain ⟨b, hb⟩ : ∃ b, code.length = b := ⟨_, rfl⟩
 have HB := Lib.hid hb
 rw [hb] at hl hn ⊢
 clear hb
 go_enter Tryz.func136, Tryz.ntmps136
 go_wp2_with fail
 refine (emit0_any 1 0 0 HP1.out.ps (by rw [HB.out]; omega)).mono ?_
 rintro e W2 ⟨rfl, hp2, hg2⟩
 rw [HB.out]
 obtain ⟨q, cap, m, e1, e2, e3, e4, hput⟩ := hp2.putAt b (b + 1) HB.out (by simp [HB.out]) 1 (.inl rfl)
 have HP2 := Lib.hid (HP1.out.go hg2 hp2)
 have HG2 := Lib.hid (HG1.out.trans hg2)
 have HPUT := Lib.hid (hput (b + 1) ((b : Int) + 1) (by omega))
 have HBX2 := Lib.hid (hg2.blk HFb.out HBX.out)
 have i1 : (b : Int) < (b : Int) + 1 := by omega
 have i2 : (0 : Int) ≤ (b : Int) := by omega
 clear hp2 hg2 hput
 go_wp2_with fail
 go_still_tail 12, (by rfl)
 change wpList _ _ _ _ _ W2.drew
 go_wp2_with fail
 obtain ⟨W3, hW3⟩ : ∃ W3, (W2.setCell ⟨q, b * 4 + 1, none⟩ (.int .i64 ((b : Int) + 1))).drew = W3 := ⟨_, rfl⟩
 rw [hW3]
 have hput := HPUT.out
 rw [hW3] at hput
 have HP3 := Lib.hid (HP2.out.go hput.2 hput.1)
 have HG3 := Lib.hid (HG2.out.trans hput.2)
 have HBX3 := Lib.hid (hput.2.blk HFb.out HBX2.out)
 clear hput hW3 e1 e3 e4
 refine (emit0_any 7 0 0 HP3.out.ps (by simp [HB.out]; omega)).mono ?_
 rintro e W4 ⟨rfl, hp4, hg4⟩
 have HP4 := Lib.hid (HP3.out.go hg4 hp4)
 have HG4 := Lib.hid (HG3.out.trans hg4)
 have HBX4 := Lib.hid (hg4.blk HFb.out HBX3.out)
 clear hp4 hg4
 obtain ⟨b0, b1, b2, b3, b4, b5⟩ := box6 HBX4.out
 obtain ⟨c4, hc4⟩ : ∃ c, code ++ [Mt.up 1 (b + 1) ⟨1, 0, 0, []⟩] ++ [(⟨7, 0, 0, []⟩ : Mt.Ins)] = c := ⟨_, rfl⟩
 have hl4 : c4.length = b + 2 := by rw [← hc4]; simp [HB.out]
 have hp4 := HP4.out
 rw [hc4] at hp4
 have HN := ih _ (k + 1) F1 c4 names lp W4 HV.out hok hp4 (by rw [hl4]; omega) (by rw [hl4]; exact hn) hk
 rw [hl4] at HN
 have HN := Lib.hid HN
 have HP4' := Lib.hid hp4
 have HC4 := Lib.hid hc4
 have HL4 := Lib.hid hl4
 clear hp4 hc4 hl4
 go_wp2_with fail
 refine HN.out.mono ?_
 rintro e W5 ⟨rfl, hp5, hg5⟩
 have HP5 := Lib.hid (HP4'.out.go hg5 hp5)
 have HG5 := Lib.hid (HG4.out.trans hg5)
 clear hp5 hg5
 go_wp2_with fail
 refine (emit0_any 8 0 0 HP5.out.ps (by rw [List.length_append, HL4.out]; omega)).mono ?_
 rintro e W6 ⟨rfl, hp6, hg6⟩
 have HP6 := Lib.hid hp6
 have HG6 := Lib.hid (HG5.out.trans hg6)
 clear hp6 hg6
 go_wp2_with fail
 go_ret
 refine ⟨rfl, ?_, HG6.out.same⟩
 have h := HP6.out
 rw [← HC4.out] at h
 have e : code ++ [Mt.up 1 (b + 1) ⟨1, 0, 0, []⟩] ++ [(⟨7, 0, 0, []⟩ : Mt.Ins)] ++ (Mt.compN t (b + 2) names).1 ++ [⟨8, 0, 0, []⟩] = code ++ (⟨1, b + 1, 0, []⟩ :: ⟨7, 0, 0, []⟩ :: (Mt.compN t (b + 2) names).1 ++ [⟨8, 0, 0, []⟩]) := by simp [Mt.up, Mt.upX]
 rw [e] at h
 exact h.weak HG1.out.mono
end Go.Proofs.YtmpbjaodgajnfaaGreatDoor
namespace Go.Proofs.YtmpbjaodgajnfaaGreatDoor
open Go.RowKit
def CapAt (w0 : World) (s : List UInt8) (g : Nat) (t : NT) : Prop := ∀ (v : Value) (F : Nat → Prop) (code : List Mt.Ins) (names : List (List UInt8)) (lp : Nat) (W : World), NAt w0 t v → Pre w0 s g F code names lp W → (Mt.capsN t names).length ≤ 100000 →
 Calls Tryz.prog 135 #[.pointer (some ⟨g, 0, none⟩), v] W fun e W' => e = .returned (.tuple #[]) ∧ PgS w0 s g F code (Mt.capsN t names) lp W' ∧ GoF F F W W'
set_option maxHeartbeats 8000000 in
set_option maxRecDepth 1000000 in
theorem caps_step (w0 : World) (s : List UInt8) (g : Nat) (N : Nat) (ih : ∀ t : NT, SizeOf.sizeOf t < N → CapAt w0 s g t) (t : NT) (ht : SizeOf.sizeOf t < N + 1) : CapAt w0 s g t := by
 intro v F code names lp W hv hp hn
 obtain ⟨op, rs, nm, kids, mn, mx, ra, rc, a, c, rfl, rfl, _, hkl, hk⟩ := hv.open
 have HIH : Hid (∀ i (h : i < kids.length), CapAt w0 s g kids[i]) := Lib.hid fun i h => ih _ (by have := kid_lt (op := op) (rs := rs) (nm := nm) (mn := mn) (mx := mx) i h; omega)
 rw [Mt.capsN] at hn ⊢
 clear hv ih ht
 obtain ⟨nr, hnr⟩ : ∃ n, rs.length = n := ⟨_, rfl⟩
 rw [hnr] at *
 clear hnr
 have HK := Lib.hid hk
 obtain ⟨nk, hnk⟩ : ∃ n, kids.length = n := ⟨_, rfl⟩
 have HNK := Lib.hid hnk
 rw [hnk] at hkl ⊢
 clear hk hnk
 obtain ⟨Wa, hWa⟩ : ∃ Wa, W.alloc (.cells #[.int .i64 op, .slice ra nr rc, .string ⟨nm.toArray⟩, .slice a nk c, .int .i64 mn, .int .i64 mx] 33) = Wa := ⟨_, rfl⟩
 have hba : Below W.heap.size W Wa := by rw [← hWa]; exact (Below.refl _ _).alloc (Nat.le_refl _) _
 have hbx : Wa.heap[W.heap.size]? = some (.cells #[.int .i64 op, .slice ra nr rc, .string ⟨nm.toArray⟩, .slice a nk c, .int .i64 mn, .int .i64 mx] 33 (0, 0)) := by rw [← hWa]; exact Deep.blk_alloc_new W _
 have HP1 := Lib.hid (hp.below hba)
 have HFb : Hid (Fg F W Wa W.heap.size) := Lib.hid (.inr ⟨Nat.le_refl _, heap_lt hbx⟩)
 have HG1 : Hid (GoF F (Fg F W Wa) W Wa) := Lib.hid (GoF.below hba)
 have HBX := Lib.hid hbx
 clear hp hba hbx
 generalize Fg F W Wa = F1 at HP1 HFb HG1
 have HN := Lib.hid hn
 obtain ⟨b0, b1, b2, b3, b4, b5⟩ := box6 HBX.out
 by_cases o5 : op = 5
 ·subst o5
  rw [if_pos rfl] at hn HN ⊢
  have hc1 : (Mt.capL names nm).length ≤ 100000 := Nat.le_trans (Mt.capsL_le kids _) hn
  have hc0 : names.length ≤ 100000 := Nat.le_trans (Mt.capL_le names nm) hc1
  go_enter Tryz.func135, Tryz.ntmps135
  go_wp2_with fail
  refine (capture_any w0 s g F1 code names lp nm Wa HP1.out.ps hc0).mono ?_
  rintro e W2 ⟨rfl, hp2, hg2⟩
  have HP2 := Lib.hid (HP1.out.go hg2 hp2)
  have HG2 := Lib.hid (HG1.out.trans hg2)
  have HBX2 := Lib.hid (hg2.blk HFb.out HBX.out)
  clear hp2 hg2
  obtain ⟨b0', b1', b2', b3', b4', b5'⟩ := box6 HBX2.out
  go_wp2_with fail
  go_loopw [16] (fun i wr => ∃ (j : Nat) (ns1 : List (List UInt8)), i = .int .i64 (j : Int) ∧ j ≤ nk ∧ Hid (Mt.capsL kids (Mt.capL names nm) = Mt.capsL (kids.drop j) ns1) ∧ Hid (Pre w0 s g F1 code ns1 lp wr) ∧ Hid (GoF F F1 W wr)) (fun i _ => nk - (intOf i).toNat)
  case atStart => exact ⟨0, Mt.capL names nm, rfl, by omega, Lib.hid (by rw [List.drop_zero]), HP2, HG2⟩
  case round =>
   obtain ⟨j, ns1, rfl, hj, HE, HPj, HGj⟩ := hrel
   by_cases hlt : j < nk
   ·have hjk : j < kids.length := by rw [HNK.out]; exact hlt
    obtain ⟨blk, off, op', ra', rn', rc', nm', a', n', c', mn', mx', rfl, hl, c0, c1, c2, c3, c4, c5, hT⟩ := HK.out j hjk
    have e0 := (HPj.out.bl.cell (p := ⟨blk, off + j * 6, none⟩) hl).trans c0
    have e1 := (HPj.out.bl.cell (p := ⟨blk, off + j * 6 + 1, none⟩) hl).trans c1
    have e2 := (HPj.out.bl.cell (p := ⟨blk, off + j * 6 + 2, none⟩) hl).trans c2
    have e3 := (HPj.out.bl.cell (p := ⟨blk, off + j * 6 + 3, none⟩) hl).trans c3
    have e4 := (HPj.out.bl.cell (p := ⟨blk, off + j * 6 + 4, none⟩) hl).trans c4
    have e5 := (HPj.out.bl.cell (p := ⟨blk, off + j * 6 + 5, none⟩) hl).trans c5
    have hlw : blk < wr.heap.size := Nat.lt_of_lt_of_le hl HPj.out.bl.size
    have i1 : (j : Int) < (nk : Int) := by omega
    obtain ⟨Wb, hWb⟩ : ∃ Wb, wr.alloc (.cells #[.int .i64 op', .slice ra' rn' rc', .string ⟨nm'.toArray⟩, .slice a' n' c', .int .i64 mn', .int .i64 mx'] 33) = Wb := ⟨_, rfl⟩
    have hbb : Below wr.heap.size wr Wb := by rw [← hWb]; exact (Below.refl _ _).alloc (Nat.le_refl _) _
    have hbx : Wb.heap[wr.heap.size]? = some (.cells #[.int .i64 op', .slice ra' rn' rc', .string ⟨nm'.toArray⟩, .slice a' n' c', .int .i64 mn', .int .i64 mx'] 33 (0, 0)) := by rw [← hWb]; exact Deep.blk_alloc_new wr _
    have hstep : Mt.capsL (kids.drop j) ns1 = Mt.capsL (kids.drop (j + 1)) (Mt.capsN kids[j] ns1) := by rw [List.drop_eq_getElem_cons hjk, Mt.capsL]
    have hle : (Mt.capsN kids[j] ns1).length ≤ 100000 := Nat.le_trans (Mt.capsL_le (kids.drop (j + 1)) _) (by rw [← hstep, ← HE.out]; exact HN.out)
    have HT := Lib.hid (HIH.out j hjk _ (Fg F1 wr Wb) code ns1 lp Wb hT (HPj.out.below hbb) hle)
    have HBB := Lib.hid hbb
    have HE2 := Lib.hid (HE.out.trans hstep)
    obtain ⟨q0, q1, q2, q3, q4, q5⟩ := box6 hbx
    clear c0 c1 c2 c3 c4 c5 hT hbb hbx hstep hle
    go_wp2_with fail
    refine HT.out.mono ?_
    rintro e W3 ⟨rfl, hp3, hg3⟩
    have HG3 : Hid (GoF F1 F1 wr W3) := Lib.hid ((GoF.below HBB.out).trans hg3).same
    have HP3 := Lib.hid (HPj.out.go HG3.out (hp3.weak fun _ h => .inl h))
    clear hp3 hg3
    go_wp2_with fail
    go_roundw
    case rel => exact ⟨j + 1, _, by go_num, by omega, HE2, HP3, Lib.hid (HGj.out.trans HG3.out)⟩
    case measure => simp [intOf]; omega
   ·have hend : Mt.capsL kids (Mt.capL names nm) = ns1 := by rw [HE.out, List.drop_eq_nil_of_le (by rw [HNK.out]; omega), Mt.capsL]
    go_wp2_with fail
    go_end0
    exact ⟨rfl, by rw [hend]; exact HPj.out.ps.weak HG1.out.mono, HGj.out.same⟩
 ·rw [if_neg o5] at hn HN ⊢
  have hz : (op == 5) = false := by rw [beq_eq_false_iff_ne]; exact o5
  go_enter Tryz.func135, Tryz.ntmps135
  go_wp2_with fail
  go_loopw [16] (fun i wr => ∃ (j : Nat) (ns1 : List (List UInt8)), i = .int .i64 (j : Int) ∧ j ≤ nk ∧ Hid (Mt.capsL kids (names) = Mt.capsL (kids.drop j) ns1) ∧ Hid (Pre w0 s g F1 code ns1 lp wr) ∧ Hid (GoF F F1 W wr)) (fun i _ => nk - (intOf i).toNat)
  case atStart => exact ⟨0, names, rfl, by omega, Lib.hid (by rw [List.drop_zero]), HP1, HG1⟩
  case round =>
   obtain ⟨j, ns1, rfl, hj, HE, HPj, HGj⟩ := hrel
   by_cases hlt : j < nk
   ·have hjk : j < kids.length := by rw [HNK.out]; exact hlt
    obtain ⟨blk, off, op', ra', rn', rc', nm', a', n', c', mn', mx', rfl, hl, c0, c1, c2, c3, c4, c5, hT⟩ := HK.out j hjk
    have e0 := (HPj.out.bl.cell (p := ⟨blk, off + j * 6, none⟩) hl).trans c0
    have e1 := (HPj.out.bl.cell (p := ⟨blk, off + j * 6 + 1, none⟩) hl).trans c1
    have e2 := (HPj.out.bl.cell (p := ⟨blk, off + j * 6 + 2, none⟩) hl).trans c2
    have e3 := (HPj.out.bl.cell (p := ⟨blk, off + j * 6 + 3, none⟩) hl).trans c3
    have e4 := (HPj.out.bl.cell (p := ⟨blk, off + j * 6 + 4, none⟩) hl).trans c4
    have e5 := (HPj.out.bl.cell (p := ⟨blk, off + j * 6 + 5, none⟩) hl).trans c5
    have hlw : blk < wr.heap.size := Nat.lt_of_lt_of_le hl HPj.out.bl.size
    have i1 : (j : Int) < (nk : Int) := by omega
    obtain ⟨Wb, hWb⟩ : ∃ Wb, wr.alloc (.cells #[.int .i64 op', .slice ra' rn' rc', .string ⟨nm'.toArray⟩, .slice a' n' c', .int .i64 mn', .int .i64 mx'] 33) = Wb := ⟨_, rfl⟩
    have hbb : Below wr.heap.size wr Wb := by rw [← hWb]; exact (Below.refl _ _).alloc (Nat.le_refl _) _
    have hbx : Wb.heap[wr.heap.size]? = some (.cells #[.int .i64 op', .slice ra' rn' rc', .string ⟨nm'.toArray⟩, .slice a' n' c', .int .i64 mn', .int .i64 mx'] 33 (0, 0)) := by rw [← hWb]; exact Deep.blk_alloc_new wr _
    have hstep : Mt.capsL (kids.drop j) ns1 = Mt.capsL (kids.drop (j + 1)) (Mt.capsN kids[j] ns1) := by rw [List.drop_eq_getElem_cons hjk, Mt.capsL]
    have hle : (Mt.capsN kids[j] ns1).length ≤ 100000 := Nat.le_trans (Mt.capsL_le (kids.drop (j + 1)) _) (by rw [← hstep, ← HE.out]; exact HN.out)
    have HT := Lib.hid (HIH.out j hjk _ (Fg F1 wr Wb) code ns1 lp Wb hT (HPj.out.below hbb) hle)
    have HBB := Lib.hid hbb
    have HE2 := Lib.hid (HE.out.trans hstep)
    obtain ⟨q0, q1, q2, q3, q4, q5⟩ := box6 hbx
    clear c0 c1 c2 c3 c4 c5 hT hbb hbx hstep hle
    go_wp2_with fail
    refine HT.out.mono ?_
    rintro e W3 ⟨rfl, hp3, hg3⟩
    have HG3 : Hid (GoF F1 F1 wr W3) := Lib.hid ((GoF.below HBB.out).trans hg3).same
    have HP3 := Lib.hid (HPj.out.go HG3.out (hp3.weak fun _ h => .inl h))
    clear hp3 hg3
    go_wp2_with fail
    go_roundw
    case rel => exact ⟨j + 1, _, by go_num, by omega, HE2, HP3, Lib.hid (HGj.out.trans HG3.out)⟩
    case measure => simp [intOf]; omega
   ·have hend : Mt.capsL kids (names) = ns1 := by rw [HE.out, List.drop_eq_nil_of_le (by rw [HNK.out]; omega), Mt.capsL]
    go_wp2_with fail
    go_end0
    exact ⟨rfl, by rw [hend]; exact HPj.out.ps.weak HG1.out.mono, HGj.out.same⟩
theorem caps_any (w0 : World) (s : List UInt8) (g : Nat) (t : NT) : CapAt w0 s g t := by
 have h : ∀ N (t : NT), SizeOf.sizeOf t < N → CapAt w0 s g t := by
  intro N
  induction N with
  | zero => intro t h; omega
  | succ N ih => intro t h; exact caps_step w0 s g N ih t h
 exact h (SizeOf.sizeOf t + 1) t (by omega)
end Go.Proofs.YtmpbjaodgajnfaaGreatDoor
namespace Go.Proofs.YtmpbjaodgajnfaaGreatDoor
open Go.RowKit
theorem GoF.sub {F F' : Nat → Prop} {W W' : World} (h : GoF F' F' W W') (hs : ∀ b, F b → F' b) : GoF F F W W' := ⟨⟨h.kp.os, h.kp.tape, h.kp.output, h.kp.size, fun b hb hl => h.kp.block b (hs b hb) hl⟩, fun _ h => h⟩
theorem push_step {w0 : World} {s : List UInt8} {g : Nat} {F : Nat → Prop} {code : List Mt.Ins} {names : List (List UInt8)} {lp : Nat} {W : World} {eds : List Nat} {ev : Value} (hp : PgS w0 s g (Fe F ev) code names lp W) (he : EO W eds ev) (hl : eds.length ≤ 100000) (x : Nat) (hown : ∀ b, ev.ownBlock = some b → ¬ F b) :
  ∃ ev' W' a c, ev' = .slice a (eds.length + 1) c ∧ (Builtin.append_ #[53, 53] 53 #[ev, .slice (some ⟨W.heap.size, 0, none⟩) 1 1]).run Tryz.prog (W.alloc (.cells #[.int .i64 (x : Int)] 3)) = .ok ev' W' ∧ EO W' (eds ++ [x]) ev' ∧ PgS w0 s g (Fe F ev') code names lp W' ∧ GoF F F W W' ∧ (∀ b, ev'.ownBlock = some b → ev.ownBlock = some b ∨ W.heap.size ≤ b) := by
 obtain ⟨ev', W', a, c, h1, h2, h3, h4, h5, h6⟩ := ends_push he hl x
 have hkp := h4 F hown
 refine ⟨ev', W', a, c, h1, h2, h3, hp.keep (fun b hb hn => h5 b hb fun e => hn (.inr e)) (fun b hb => ?_), ⟨hkp, fun _ h => h⟩, h6⟩
 rcases hb with hb | hb
 ·have := hp.bnd b (.inl hb)
  exact ⟨Nat.lt_of_lt_of_le this hkp.size, fun _ => .inl hb⟩
 ·refine ⟨h3.lt hb, fun hl => ?_⟩
  rcases h6 b hb with e | e
  ·exact .inr e
  ·omega
theorem PgS.putK {w0 : World} {s : List UInt8} {g : Nat} {F : Nat → Prop} {code : List Mt.Ins} {names : List (List UInt8)} {lp : Nat} {W : World} (h : PgS w0 s g F code names lp W) {b : Nat} (hb : b < code.length) (j : Nat) (hj : j = 1 ∨ j = 2) :
  ∃ q cap m, W.cell? ⟨g, 0, none⟩ = some (.slice (some ⟨q, 0, none⟩) code.length cap) ∧ W.cell? ⟨q, b * 4 + j, none⟩ = some (.int .i64 ((m : Nat) : Int)) ∧ W.frozen? ⟨q, b * 4 + j, none⟩ = false ∧ ∀ (v : Nat) (z : Int), z = (v : Int) → PgS w0 s g F (code.modify b (Mt.up j v)) names lp (W.setCell ⟨q, b * 4 + j, none⟩ (.int .i64 z)).drew ∧ GoF F F W (W.setCell ⟨q, b * 4 + j, none⟩ (.int .i64 z)).drew := by
 obtain ⟨q, cap, hq⟩ := h.put hb j hj
 obtain ⟨m, hm⟩ := hq.cell
 refine ⟨q, cap, m, hq.c0, hm, hq.soft, fun v z hz => ?_⟩
 subst hz
 exact hq.done v
namespace Mt
theorem rept_times (t : NT) (mn mx : Int) (b : Nat) (ns : List Nm) : (times (compN t) mn.toNat b ns).1.length ≤ (rept (compN t) mn mx b ns).1.length ∧ (times (compN t) mn.toNat b ns).2.length ≤ (rept (compN t) mn mx b ns).2.length := by
 unfold rept
 split
 ·refine ⟨by simp, ?_⟩
  show _ ≤ (compN t _ _).2.length
  rw [compN_names]
  exact nsN_le t _
 ·refine ⟨by simp, ?_⟩
  show _ ≤ (opts _ 0 _ _ _).2.length
  rw [opts_names (s := []) (L := 0) (q := nst t) (D := denN [] t) (fn := nsN t) (compN_sem [] 0 t)]
  have h : ∀ n (ns : List Nm), ns.length ≤ (timesN (nsN t) n ns).length := by
   intro n
   induction n with
   | zero => intro ns; exact Nat.le_refl _
   | succ n ih => intro ns; exact Nat.le_trans (nsN_le t ns) (ih _)
  exact h _ _
end Mt
end Go.Proofs.YtmpbjaodgajnfaaGreatDoor

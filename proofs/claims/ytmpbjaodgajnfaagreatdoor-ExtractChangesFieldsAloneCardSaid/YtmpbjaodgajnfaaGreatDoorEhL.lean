/-
 Joined: MtCl, MtCo, EvE, EvF, EvG, EvHa, EgA, EgB, EgC, EvJ.
-/
import Derived.Test.YtmpbjaodgajnfaaGreatDoorEhK
import Derived.Test.YtmpbjaodgajnfaaGreatDoorEhI
import Derived.Laws.Rows
import Derived.Laws.Tables
import Derived.Deep.WholeRow
import Derived.Deep.MidRow
import Derived.Test.YtmpbjaodgajnfaaGreatDoorEhA
import Derived.BigRegion
import Derived.RegionTactic
import Derived.IntWalk
import Derived.Deep.RegionHeld3
import Derived.Sort.LotA
namespace Go.Proofs.YtmpbjaodgajnfaaGreatDoor
open Go.RowKit
theorem CompP.low {w w' : World} {fa : Nat} (hb : Below w.heap.size w w') (hf : w.heap.size ≤ fa) : ∀ b, b < w.heap.size → Fa fa w' b := fun b hbl => ⟨Nat.lt_of_lt_of_le hbl hb.size, by omega⟩
def FndV (t : NT) (s : List UInt8) (F : Nat → Prop) (w : World) (v : Value) : Prop :=
 (∃ (at_ xe : Nat) (ms : List Mt.Mk) (a : Option Addr) (c : Nat), at_ ≤ s.length ∧ (∀ k, k < at_ → Mt.matR s t false k = none) ∧ Mt.matR s t false at_ = some (xe, ms) ∧ v = .tuple #[.agg #[.int .i64 (at_ : Int), .int .i64 (xe : Int), .slice a (mgrp t ms).length c], .bool true] ∧ RW F 3 GrR w (mgrp t ms) (.slice a (mgrp t ms).length c)) ∨
 ((∀ k, k ≤ s.length → Mt.matR s t false k = none) ∧ v = .tuple #[.agg #[.int .i64 0, .int .i64 0, .slice none 0 0], .bool false])
theorem FndV.two {t : NT} {s : List UInt8} {F : Nat → Prop} {w : World} {v : Value} (h : FndV t s F w v) : ∃ p q a m c ok, v = .tuple #[.agg #[.int .i64 p, .int .i64 q, .slice a m c], .bool ok] := by
 obtain ⟨x, y, ms, a, c, _, _, _, rfl, _⟩ | ⟨_, rfl⟩ := h
 ·exact ⟨_, _, a, _, c, true, rfl⟩
 ·exact ⟨0, 0, none, 0, 0, false, rfl⟩
theorem FndV.go {t : NT} {s : List UInt8} {F F' : Nat → Prop} {w w' : World} {v : Value} (h : FndV t s F w v) (hs : Stay F F' w w') : FndV t s F' w' v := by
 obtain ⟨x, y, ms, a, c, h1, h2, h3, h4, h5⟩ | h := h
 ·exact .inl ⟨x, y, ms, a, c, h1, h2, h3, h4, h5.go hs (fun _ _ h => h)⟩
 ·exact .inr h
def FndP (t : NT) (s : List UInt8) (w : World) (e : Ending) (w' : World) : Prop := ∃ v, e = .returned v ∧ FndV t s (fun b => w.heap.size ≤ b) w' v ∧ Below w.heap.size w w'
def MfnP (t : NT) (s : List UInt8) (F : Nat → Prop) (g fa : Nat) (w : World) (e : Ending) (w' : World) : Prop := (GoF F F w w' ∧ MaB t false s F g fa w') ∧ ∃ v, e = .returned v ∧ FndV t s (fun b => w.heap.size ≤ b) w' v
end Go.Proofs.YtmpbjaodgajnfaaGreatDoor
namespace Go.Proofs.YtmpbjaodgajnfaaGreatDoor
open Go.RowKit
theorem MaB.on {t : NT} {en : Bool} {s : List UInt8} {F : Nat → Prop} {g fa : Nat} {w w' : World} (h : MaB t en s F g fa w) (hb : Below w.heap.size w w') : MaB t en s F g fa w' := h.go (GoF.below hb).same (h.ft.keep (fun b hl => hb.block b hl) (fun b hF => ⟨Nat.lt_of_lt_of_le (h.ft.bnd b hF) hb.size, fun _ => hF⟩))
set_option maxHeartbeats 4000000 in
set_option maxRecDepth 1000000 in
theorem find_any (t : NT) (s : List UInt8) (g fa : Nat) (hck : ckE t = 0) (hco : Mt.costN t ≤ 4000) (hs : s.length ≤ 20000) (F : Nat → Prop) (w : World) (h : MaB t false s F g fa w) :
  Calls Tryz.prog 57 #[.pointer (some ⟨g, 0, none⟩), .int .i64 0] w (MfnP t s F g fa w) := by
 obtain ⟨Wa, hWa⟩ : ∃ Wa, w.alloc (.cells #[.int .i64 0, .int .i64 0, .slice none 0 0] 80) = Wa := ⟨_, rfl⟩
 have hba : Below w.heap.size w Wa := by rw [← hWa]; exact (Below.refl _ _).alloc (Nat.le_refl _) _
 have hbx : Wa.heap[w.heap.size]? = some (.cells #[.int .i64 0, .int .i64 0, .slice none 0 0] 80 (0, 0)) := by rw [← hWa]; exact Deep.blk_alloc_new w _
 have ha1 := h.below hba
 have HFb : Hid (Fg F w Wa w.heap.size) := Lib.hid (.inr ⟨Nat.le_refl _, heap_lt hbx⟩)
 have HG1 : Hid (GoF F (Fg F w Wa) w Wa) := Lib.hid (GoF.below hba)
 have HM := Lib.hid (fun (F' : Nat → Prop) (a : Nat) (ha : a ≤ s.length) (W : World) (hW : MaB t false s F' g fa W) => match_any t false s g fa hck hco hs a ha F' W hW)
 have HBX := Lib.hid hbx
 have HA1 := Lib.hid ha1
 have HH := Lib.hid h
 clear h hba hbx ha1 hck hco
 generalize Fg F w Wa = F1 at HFb HG1 HA1
 go_enter Tryz.func57, Tryz.ntmps57
 go_wp2_with fail
 go_loopw [6] (fun i wr => ∃ (k : Nat), i = .int .i64 (k : Int) ∧ k ≤ s.length + 1 ∧ Hid (∀ a, a < k → Mt.matR s t false a = none) ∧ Hid (MaB t false s F1 g fa wr) ∧ Hid (GoF F1 F1 Wa wr)) (fun i _ => s.length + 1 - (intOf i).toNat)
 case atStart => exact ⟨0, rfl, Nat.zero_le _, Lib.hid (fun a ha => absurd ha (Nat.not_lt_zero _)), HA1, Lib.hid (GoF.refl _ _)⟩
 case round =>
  obtain ⟨k, rfl, hk, HNO, HMk, HGk⟩ := hrel
  have hsl : wr.cell? ⟨g, 3, none⟩ = some (.string ⟨s.toArray⟩) := HMk.out.mb.mstr
  by_cases hks : k ≤ s.length
  ·have i1 : (k : Int) ≤ (s.length : Int) := by omega
   have HC := Lib.hid (HM.out F1 k hks wr HMk.out)
   obtain ⟨r, hr⟩ : ∃ r, Mt.matR s t false k = r := ⟨_, rfl⟩
   have HR := Lib.hid hr
   clear hr
   cases r with
   | some x =>
    obtain ⟨xe, ms⟩ := x
    go_wp2_with fail
    refine HC.out.mono ?_
    rintro e w3 ⟨⟨hg3, hm3⟩, he⟩
    rw [HR.out] at he
    obtain ⟨a, c, rfl, hrw⟩ := he
    simp only at hrw
    obtain ⟨m, hm⟩ : ∃ m, Mt.cntM (Mt.nsN t []).length ms = m := ⟨_, rfl⟩
    simp only [hm] at hrw ⊢
    have HMM : Hid ((mgrp t ms).length = m) := Lib.hid ((mgrp_len t ms).trans hm)
    have HX3 := Lib.hid (hg3.blk HFb.out (HGk.out.blk HFb.out HBX.out))
    have hf3 := hm3.ft
    have HFIN := Lib.hid (fun (W : World) (hW : SrtP w.heap.size w3 W) => HH.out.fin (HG1.out.trans (HGk.out.trans hg3)) hf3 HFb.out hW)
    obtain ⟨W4, hW4⟩ : ∃ W4, w3.alloc (.cells #[.int .i64 (k : Int), .int .i64 (xe : Int), .slice a m c] 80) = W4 := ⟨_, rfl⟩
    have hb4 : Below w3.heap.size w3 W4 := by rw [← hW4]; exact (Below.refl _ _).alloc (Nat.le_refl _) _
    have hx4 : W4.heap[w3.heap.size]? = some (.cells #[.int .i64 (k : Int), .int .i64 (xe : Int), .slice a m c] 80 (0, 0)) := by rw [← hW4]; exact Deep.blk_alloc_new _ _
    have k0 : W4.cell? ⟨w3.heap.size, 0, none⟩ = some (.int .i64 (k : Int)) := by rw [Lib.cell_of_heap hx4]; rfl
    have k1 : W4.cell? ⟨w3.heap.size, 1, none⟩ = some (.int .i64 (xe : Int)) := by rw [Lib.cell_of_heap hx4]; rfl
    have k2 : W4.cell? ⟨w3.heap.size, 2, none⟩ = some (.slice a m c) := by rw [Lib.cell_of_heap hx4]; rfl
    have hr4 := (hb4.block _ (heap_lt HX3.out)).trans HX3.out
    have d0 : W4.cell? ⟨w.heap.size, 0, none⟩ = some (.int .i64 0) := by rw [Lib.cell_of_heap hr4]; rfl
    have d1 : W4.cell? ⟨w.heap.size, 1, none⟩ = some (.int .i64 0) := by rw [Lib.cell_of_heap hr4]; rfl
    have d2 : W4.cell? ⟨w.heap.size, 2, none⟩ = some (.slice none 0 0) := by rw [Lib.cell_of_heap hr4]; rfl
    have z0 := frz0 hr4 0
    have z1 := frz0 hr4 1
    have z2 := frz0 hr4 2
    have HR4 := Lib.hid hr4
    have HB4 := Lib.hid hb4
    have hwk : w.heap.size < wr.heap.size := Nat.lt_of_lt_of_le (heap_lt HBX.out) HGk.out.kp.size
    have HRW : Hid (∀ v0 v1 v2 : Value, RW (fun b => w.heap.size ≤ b) 3 GrR (((W4.setCell ⟨w.heap.size, 0, none⟩ v0).setCell ⟨w.heap.size, 1, none⟩ v1).setCell ⟨w.heap.size, 2, none⟩ v2) (mgrp t ms) (.slice a m c)) := Lib.hid (fun v0 v1 v2 => by
     have hs3 := ((SrtP.of_below hb4).trans (((SrtP.set W4 w.heap.size 0 v0).trans (SrtP.set _ w.heap.size 1 v1)).trans (SrtP.set _ w.heap.size 2 v2)) : SrtP w.heap.size w3 _)
     exact hrw.go (F' := fun b => w.heap.size ≤ b) ⟨hs3.size, fun b hb hl => ⟨by have : wr.heap.size < b := hb; show w.heap.size ≤ b; omega, hs3.block b hl (by have : wr.heap.size < b := hb; omega)⟩⟩ (fun _ _ h => h))
    clear hb4 hx4 hr4 hg3 hm3 hf3 hrw hm hwk
    go_wp2_with fail
    refine agg_ret2 (cs := [.int .i64 (k : Int), .int .i64 (xe : Int), .slice a m c]) (by rfl) rfl (by rfl) (set_at (set_at (set_at HR4.out 0 _) 1 _) 2 _) Tryz.underlying80 rfl (by kernel_rfl) ?_
    refine ⟨HFIN.out _ ((SrtP.of_below HB4.out).trans (((SrtP.set _ _ _ _).trans (SrtP.set _ _ _ _)).trans (SrtP.set _ _ _ _))), _, rfl, .inl ⟨k, xe, ms, a, c, hks, HNO.out, HR.out, by rw [HMM.out]; rfl, ?_⟩⟩
    rw [HMM.out]
    exact HRW.out _ _ _
   | none =>
    go_wp2_with fail
    refine HC.out.mono ?_
    rintro e w3 ⟨⟨hg3, hm3⟩, he⟩
    rw [HR.out] at he
    subst he
    have hb4 : Below w3.heap.size w3 (w3.alloc (.cells #[.int .i64 0, .int .i64 0, .slice none 0 0] 80)) := (Below.refl _ _).alloc (Nat.le_refl _) _
    have HM4 := Lib.hid (hm3.on hb4)
    have HG4 : Hid (GoF F1 F1 Wa (w3.alloc (.cells #[.int .i64 0, .int .i64 0, .slice none 0 0] 80))) := Lib.hid ((HGk.out.trans hg3).trans (GoF.below hb4).same)
    clear hb4 hg3 hm3
    go_wp2_with fail
    go_roundw
    case rel => exact ⟨k + 1, by go_num, by omega, Lib.hid (fun a ha => by
      rcases Nat.lt_succ_iff_lt_or_eq.1 ha with h | rfl
      ·exact HNO.out a h
      ·exact HR.out), HM4, HG4⟩
    case measure => simp [intOf]; omega
  ·have i1 : ¬ (k : Int) ≤ (s.length : Int) := by omega
   have HX3 := Lib.hid (HGk.out.blk HFb.out HBX.out)
   have hfk := HMk.out.ft
   have HFIN := Lib.hid (fun (W : World) (hW : SrtP w.heap.size wr W) => HH.out.fin (HG1.out.trans HGk.out) hfk HFb.out hW)
   have d0 : wr.cell? ⟨w.heap.size, 0, none⟩ = some (.int .i64 0) := by rw [Lib.cell_of_heap HX3.out]; rfl
   have d1 : wr.cell? ⟨w.heap.size, 1, none⟩ = some (.int .i64 0) := by rw [Lib.cell_of_heap HX3.out]; rfl
   have d2 : wr.cell? ⟨w.heap.size, 2, none⟩ = some (.slice none 0 0) := by rw [Lib.cell_of_heap HX3.out]; rfl
   have z0 := frz0 HX3.out 0
   have z1 := frz0 HX3.out 1
   have z2 := frz0 HX3.out 2
   clear hfk
   go_wp2_with fail
   refine agg_ret2 (cs := [.int .i64 0, .int .i64 0, .slice none 0 0]) (by rfl) rfl (by rfl) (set_at (set_at (set_at HX3.out 0 _) 1 _) 2 _) Tryz.underlying80 rfl (by kernel_rfl) ?_
   exact ⟨HFIN.out _ (((SrtP.set _ _ _ _).trans (SrtP.set _ _ _ _)).trans (SrtP.set _ _ _ _)), _, rfl, .inr ⟨fun a ha => HNO.out a (by omega), rfl⟩⟩
set_option maxHeartbeats 4000000 in
set_option maxRecDepth 1000000 in
theorem Find_any (t : NT) (v : Value) (s : List UInt8) (w : World) (h : NAt w t v) (hk : Kinds w) (hs : s.length ≤ 20000) (hck : ckE t = 0) (hco : Mt.costN t ≤ 4000) :
  Calls Tryz.prog 30 #[v, .string ⟨s.toArray⟩, .int .i64 0] w (FndP t s w) := by
 have hN := h
 obtain ⟨op, rs, nm, kids, mn, mx, ra, rc, a, c, e0, rfl, _⟩ := h.open
 clear e0
 obtain ⟨nk, hnk⟩ : ∃ n, kids.length = n := ⟨_, rfl⟩
 obtain ⟨nr, hnr⟩ : ∃ n, rs.length = n := ⟨_, rfl⟩
 rw [hnk, hnr] at hN ⊢
 obtain ⟨Wa, hWa⟩ : ∃ Wa, w.alloc (.cells #[.int .i64 op, .slice ra nr rc, .string ⟨nm.toArray⟩, .slice a nk c, .int .i64 mn, .int .i64 mx] 33) = Wa := ⟨_, rfl⟩
 have hb : Below w.heap.size w Wa := by rw [← hWa]; exact (Below.refl _ _).alloc (Nat.le_refl _) _
 have hsz : Wa.heap.size = w.heap.size + 1 := by rw [← hWa]; exact Deep.nblk_alloc _ _
 have hbx : Wa.heap[w.heap.size]? = some (.cells #[.int .i64 op, .slice ra nr rc, .string ⟨nm.toArray⟩, .slice a nk c, .int .i64 mn, .int .i64 mx] 33 (0, 0)) := by rw [← hWa]; exact Deep.blk_alloc_new w _
 obtain ⟨Wm, hWm⟩ : ∃ Wm, Wa.alloc (.cells #[.int .i64 0, .int .i64 0, .slice none 0 0] 80) = Wm := ⟨_, rfl⟩
 have hbm : Below w.heap.size w Wm := by rw [← hWm]; exact hb.alloc hb.size _
 have hmx : Wm.heap[w.heap.size + 1]? = some (.cells #[.int .i64 0, .int .i64 0, .slice none 0 0] 80 (0, 0)) := by rw [← hWm, ← hsz]; exact Deep.blk_alloc_new Wa _
 have hnx : Wm.heap[w.heap.size]? = some (.cells #[.int .i64 op, .slice ra nr rc, .string ⟨nm.toArray⟩, .slice a nk c, .int .i64 mn, .int .i64 mx] 33 (0, 0)) := by rw [← hWm]; exact (Deep.blk_alloc_lt _ _ _ (by omega)).trans hbx
 have HC := Lib.hid (compile_any t _ s false Wm (NAt.later hbm _ _ hN) (hk.below hbm) hs hck hco)
 have HB := Lib.hid hbm
 have HMX := Lib.hid hmx
 obtain ⟨b0, b1, b2, b3, b4, b5⟩ := box6 hnx
 have z2 : decide ((s.length : Int) < 0) = false := decide_eq_false (by omega)
 have HCK := Lib.hid hck
 have HCO := Lib.hid hco
 clear hk hb hbx hN h hnk hnr hbm hmx hnx hck hco
 go_enter Tryz.func30, Tryz.ntmps30
 go_wp2_with fail
 refine HC.out.mono ?_
 rintro e w2 ⟨g, fa, rfl, hb2, hg, hf, hm⟩
 have HM := Lib.hid hm
 have HB2 := Lib.hid hb2
 have HGF := Lib.hid (And.intro hg hf)
 clear hb2 hg hf hm
 go_wp2_with fail
 refine (find_any t s g fa HCK.out HCO.out hs _ w2 HM.out).mono ?_
 rintro e w3 ⟨⟨hg3, hm3⟩, v, rfl, hv⟩
 have HB3 : Hid (Below Wm.heap.size Wm w3) := Lib.hid (HB2.out.trans (hg3.low (CompP.low HB2.out HGF.out.2) HB2.out.size))
 have hv2 := hv
 obtain ⟨p1, p2, a1, m1, c1, ok, rfl⟩ := hv.two
 have hx3 := (HB3.out.block _ (heap_lt HMX.out)).trans HMX.out
 have d0 : w3.cell? ⟨w.heap.size + 1, 0, none⟩ = some (.int .i64 0) := by rw [Lib.cell_of_heap hx3]; rfl
 have d1 : w3.cell? ⟨w.heap.size + 1, 1, none⟩ = some (.int .i64 0) := by rw [Lib.cell_of_heap hx3]; rfl
 have d2 : w3.cell? ⟨w.heap.size + 1, 2, none⟩ = some (.slice none 0 0) := by rw [Lib.cell_of_heap hx3]; rfl
 have f0 := frz0 hx3 0
 have f1 := frz0 hx3 1
 have f2 := frz0 hx3 2
 have HX3 := Lib.hid hx3
 have hwm : w.heap.size + 1 < Wm.heap.size := heap_lt HMX.out
 have hwm2 : Wm.heap.size ≤ w2.heap.size := HB2.out.size
 have HVW : Hid (∀ v0 v1 v2 : Value, FndV t s (fun b => w.heap.size ≤ b) (((w3.setCell ⟨w.heap.size + 1, 0, none⟩ v0).setCell ⟨w.heap.size + 1, 1, none⟩ v1).setCell ⟨w.heap.size + 1, 2, none⟩ v2) (.tuple #[.agg #[.int .i64 p1, .int .i64 p2, .slice a1 m1 c1], .bool ok])) := Lib.hid (fun v0 v1 v2 => by
  have hs3 := ((SrtP.set w3 (w.heap.size + 1) 0 v0).trans (SrtP.set _ (w.heap.size + 1) 1 v1)).trans (SrtP.set _ (w.heap.size + 1) 2 v2)
  exact hv2.go ⟨hs3.size, fun b hb hl => ⟨by have : w2.heap.size ≤ b := hb; show w.heap.size ≤ b; omega, hs3.block b hl (by have : w2.heap.size ≤ b := hb; omega)⟩⟩)
 clear hg3 hm3 hv hv2 hx3 hwm hwm2
 go_wp2_with fail
 refine agg_ret2 (cs := [.int .i64 p1, .int .i64 p2, .slice a1 m1 c1]) (by rfl) rfl (by rfl) (set_at (set_at (set_at HX3.out 0 _) 1 _) 2 _) Tryz.underlying80 rfl (by kernel_rfl) ?_
 have hb4 : Below w.heap.size w w3 := HB.out.trans (HB3.out.mono HB.out.size)
 exact ⟨_, rfl, HVW.out _ _ _, ((hb4.setCell (p := ⟨w.heap.size + 1, 0, none⟩) (Nat.le_succ _) _).setCell (p := ⟨w.heap.size + 1, 1, none⟩) (Nat.le_succ _) _).setCell (p := ⟨w.heap.size + 1, 2, none⟩) (Nat.le_succ _) _⟩
end Go.Proofs.YtmpbjaodgajnfaaGreatDoor
namespace Go.Proofs.YtmpbjaodgajnfaaGreatDoor
open Go.RowKit
structure Ev where
 host : Int
 file : Int
 lo : Int
 hi : Int
 lv : Value
 time : Int
 weight : Int
 trace : List UInt8
 stream : List UInt8
 fv : Value
def evC (e : Ev) : Array Value := #[.int .i64 e.host, .int .i64 e.file, .int .i64 e.lo, .int .i64 e.hi, e.lv, .int .i64 e.time, .int .i64 e.weight, .string ⟨e.trace.toArray⟩, .string ⟨e.stream.toArray⟩, e.fv]
def ev0 : Ev := ⟨0, 0, 0, 0, .slice none 0 0, 0, 0, [], [], .slice none 0 0⟩
theorem evC_size (e : Ev) : (evC e).size = 10 := rfl
theorem infoEv : (Tryz.prog.info? 44).map (fun i => (i.zero, i.size)) = some (some (.agg (evC ev0)), 10) := by kernel_rfl
theorem undEv : (Tryz.prog.underlying 44).map (fun d => match d with | .struct _ => true | _ => false) = some true := by kernel_rfl
theorem undEv2 : ∃ fs, Tryz.prog.underlying 44 = some (.struct fs) := by
 cases hq : Tryz.prog.underlying 44 with
 | none => have := undEv; rw [hq] at this; cases this
 | some d =>
  have := undEv
  rw [hq] at this
  cases d <;> first | exact ⟨_, rfl⟩ | (simp at this)
def Ev.Ok (e : Ev) : Prop := e.lv.oneCell' = true ∧ e.fv.oneCell' = true
theorem evC_one {e : Ev} (h : e.Ok) : ∀ v ∈ (evC e).toList, v.oneCell' = true := by
 intro v hv
 simp only [evC, List.mem_cons, List.not_mem_nil, or_false] at hv
 rcases hv with rfl | rfl | rfl | rfl | rfl | rfl | rfl | rfl | rfl | rfl
 ·rfl
 ·rfl
 ·rfl
 ·rfl
 ·exact h.1
 ·rfl
 ·rfl
 ·rfl
 ·rfl
 ·exact h.2
theorem wp_load_ev {o : Oper} {a : Act} {w : World} {K : Act → World → Prop} {Q : Exit → Act → World → Prop} (x : Operand) (ho : o.op = .load 44 x) (g : Nat) (hx : a.eval x = .pointer (some ⟨g, 0, none⟩)) (e : Ev) (hg : w.heap[g]? = some (.cells (evC e) 44 (0, 0)))
  (h : K (a.put o.dst (.agg (evC e))) w) : o.wp Tryz.prog a w K Q := by
 obtain ⟨fs, hd⟩ := undEv2
 exact wp_load_row _ x ho g hx 44 (evC e) (0, 0) _ hg hd rfl (by rw [evC_size]; exact (zero_of_info infoEv).2) h
theorem wpl_load_ev {ops : Array Oper} {rest : List Oper} {o : Oper} {a : Act} {w : World} {Q : Exit → Act → World → Prop} (hgd : o.guard = none) (x : Operand) (ho : o.op = .load 44 x) (g : Nat) (hx : a.eval x = .pointer (some ⟨g, 0, none⟩)) (e : Ev) (hg : w.heap[g]? = some (.cells (evC e) 44 (0, 0)))
  (h : wpList Tryz.prog ops Q rest (a.put o.dst (.agg (evC e))) w) : wpList Tryz.prog ops Q (o :: rest) a w :=
 wpList_plain hgd fun _ hK => wp_load_ev x ho g hx e hg (hK _ _ h)
theorem ret_ev {fn : Func} {p : Tmp} (hfn : fn.results = #[.cell p 44]) {w : World} {e : Ev} {g : Nat} (hg : w.heap[g]? = some (.cells (evC e) 44 (0, 0))) {tmps : Array Value} {df : _} (hdf : df = []) (hp : tmps.getD p undef = .pointer (some ⟨g, 0, none⟩)) {post : Ending → World → Prop} (h : post (.returned (.agg (evC e))) w) :
  bodyPost Tryz.prog fn post Exit.ret { tmps := tmps, defers := df } w := by
 obtain ⟨fs, hd⟩ := undEv2
 exact bodyPost_ret (results_cell_row hfn tmps w g 44 (evC e) (0, 0) _ hp hg hd rfl (by rw [evC_size]; exact (zero_of_info infoEv).2)) hdf h
theorem setRow_at {W : World} {g : Nat} {cs : Array Value} {t : TypeId} {fr : Nat × Nat} (hg : W.heap[g]? = some (.cells cs t fr)) : W.setRow g cs = W := by
 unfold World.setRow
 cases W with
 | mk heap tape drawn os output =>
  congr 1
  apply Array.ext
  ·simp
  ·intro k h1 h2
   simp only [Array.getElem_modify]
   split
   ·rename_i hk
    subst hk
    have := (Array.getElem?_eq_some_iff.1 hg).2
    simp only at this
    rw [this]
   ·rfl
theorem put_ev {W : World} {g : Nat} {e : Ev} (hg : W.heap[g]? = some (.cells (evC e) 44 (0, 0))) (e' : Ev) (h' : e'.Ok) : ∃ W', (storeCells ⟨g, 0, none⟩ (evC e').toList).run Tryz.prog W = .ok () W' ∧ W'.heap[g]? = some (.cells (evC e') 44 (0, 0)) ∧ Below g W W' ∧ (∀ k, k ≠ g → W'.heap[k]? = W.heap[k]?) ∧ (storeCells ⟨g, 0, none⟩ (evC e').toList).run Tryz.prog W' = .ok () W' := by
 have key : ∀ (W : World) (e : Ev), W.heap[g]? = some (.cells (evC e) 44 (0, 0)) → (storeCells ⟨g, 0, none⟩ (evC e').toList).run Tryz.prog W = .ok () (W.setRow g (evC e')) := by
  intro W e hg
  have := run_storeCells_from (P := Tryz.prog) g 44 (evC e').toList 0 (evC e) W hg (by rw [Array.length_toList, evC_size, evC_size]) (evC_one h')
  simpa using this
 have h1 := setRow_heap W g _ (evC e') 44 (0, 0) hg
 refine ⟨_, key W e hg, h1, ⟨rfl, rfl, rfl, by rw [setRow_size]; exact Nat.le_refl _, fun k hk => setRow_other _ _ _ _ (by omega)⟩, fun k hk => setRow_other _ _ _ _ hk, ?_⟩
 have := key _ e' h1
 rwa [setRow_at h1] at this
theorem or_put {B : Nat} {fs : List Fd} {w : World} {a : Option Addr} {c i : Nat} {s : List UInt8} (h : OR B 52 2 FdR w fs (.slice a fs.length c)) (hi : i < fs.length) : ∃ g, a = some ⟨g, 0, none⟩ ∧ B ≤ g ∧ g < w.heap.size ∧ w.frozen? ⟨g, i * 2 + 1, none⟩ = false ∧ w.cell? ⟨g, i * 2 + 1, none⟩ = some (.string ⟨fs[i].2.toArray⟩) ∧
  OR B 52 2 FdR (w.setCell ⟨g, i * 2 + 1, none⟩ (.string ⟨s.toArray⟩)) (fs.set i (fs[i].1, s)) (.slice a fs.length c) := by
 have hf := h.fcl
 have hsz := h.size
 obtain ⟨hl, ⟨h1, h2⟩ | ⟨g, cap, cur, h1, hB, hg, hn, hcm, hcs, htk⟩⟩ := hf
 ·omega
 ·injection h1 with h3 h4 h5
  subst h3 h5
  have hflat : ∀ (l : List Fd) (j : Nat) (hj : j < l.length) (b : Nat), b < 2 → (fcl l)[j * 2 + b]? = (encFd l[j])[b]? := fun l j hj b hb => by
   have := flat_at 2 (l.map encFd) (fun u hu => by obtain ⟨x, _, rfl⟩ := List.mem_map.1 hu; rfl) j b (by simpa using hj) hb
   rwa [List.getElem_map] at this
  have hcl : cur[i * 2 + 1]? = some (.string ⟨fs[i].2.toArray⟩) := by
   have e1 := hflat fs i hi 1 (by decide)
   rw [← htk, List.getElem?_take_of_lt (by omega), Array.getElem?_toList] at e1
   rw [e1]
   rfl
  refine ⟨g, rfl, hB, heap_lt hg, frz0 hg _, by rw [Lib.cell_of_heap hg]; exact hcl, own_fds (by
   rw [List.length_set]
   refine ⟨by rw [fcl_len, List.length_set], .inr ⟨g, c, cur.setIfInBounds (i * 2 + 1) (.string ⟨s.toArray⟩), rfl, hB, set_at hg _ _, hn, hcm, by rw [Array.size_setIfInBounds]; exact hcs, ?_⟩⟩
   apply List.ext_getElem?
   intro k
   by_cases hk : k < fs.length * 2
   ·rw [List.getElem?_take_of_lt hk, Array.getElem?_toList, Array.getElem?_setIfInBounds]
    have e2 := hflat (fs.set i (fs[i].1, s)) (k / 2) (by rw [List.length_set]; omega) (k % 2) (by omega)
    have e3 := hflat fs (k / 2) (by omega) (k % 2) (by omega)
    rw [show k / 2 * 2 + k % 2 = k by omega] at e2 e3
    rw [e2]
    rw [← htk, List.getElem?_take_of_lt hk, Array.getElem?_toList] at e3
    by_cases e : i = k / 2
    ·by_cases e' : i * 2 + 1 = k
     ·rw [if_pos e', if_pos (by have := (Array.getElem?_eq_some_iff.1 hcl).1; exact this)]
      have : k % 2 = 1 := by omega
      simp only [this, e, List.getElem_set_self]
      rfl
     ·rw [if_neg e', e3]
      have : k % 2 = 0 := by omega
      simp only [this, e, List.getElem_set_self]
      rfl
    ·rw [if_neg (by omega), e3, List.getElem_set_ne e]
   ·rw [List.getElem?_take_eq_none (by omega), List.getElem?_eq_none (by rw [fcl_len, List.length_set]; omega)]) (by rw [List.length_set]; exact hsz)⟩
def InsLaw (K : List Fd → Nat → Prop) : Prop := ∀ (B : Nat) (fs : List Fd) (fv : Value) (x1 x2 : List UInt8) (i q : Nat) (w : World), OR B 52 2 FdR w fs fv → w.heap[q]? = some (.cells #[.string ⟨x1.toArray⟩, .string ⟨x2.toArray⟩] 52 (0, 0)) → fv.ownBlock ≠ some q → B ≤ w.heap.size → fs.length ≤ 1000 → i ≤ fs.length → K fs i →
  Calls Tryz.prog 35 #[fv, .int .i64 (i : Int), .slice (some ⟨q, 0, none⟩) 1 1] w fun e w' => ∃ v, e = .returned v ∧ OR B 52 2 FdR w' (fs.take i ++ (x1, x2) :: fs.drop i) v ∧ Below B w w' ∧ ∀ k, k < w.heap.size → fv.ownBlock ≠ some k → w'.heap[k]? = w.heap[k]?
end Go.Proofs.YtmpbjaodgajnfaaGreatDoor
namespace Go.Proofs.YtmpbjaodgajnfaaGreatDoor
open Go.RowKit
theorem cmp_cons (x y : UInt8) (a b : List UInt8) : Lib.compareBytes (x :: a) (y :: b) = if x.toNat < y.toNat then -1 else if y.toNat < x.toNat then 1 else Lib.compareBytes a b := by
 rw [Lib.compareBytes]
 simp only [UInt8.lt_iff_toNat_lt]
theorem cmp_zero : ∀ (a b : List UInt8), Lib.compareBytes a b = 0 ↔ a = b
 | [], [] => by simp [Lib.compareBytes]
 | [], _ :: _ => by simp [Lib.compareBytes]
 | _ :: _, [] => by simp [Lib.compareBytes]
 | x :: a, y :: b => by
  rw [cmp_cons]
  by_cases h1 : x.toNat < y.toNat
  ·rw [if_pos h1]
   refine ⟨fun h => by omega, fun h => ?_⟩
   injection h with h2 h3
   subst h2
   omega
  ·rw [if_neg h1]
   by_cases h2 : y.toNat < x.toNat
   ·rw [if_pos h2]
    refine ⟨fun h => by omega, fun h => ?_⟩
    injection h with h3 h4
    subst h3
    omega
   ·rw [if_neg h2, cmp_zero a b]
    have : x = y := UInt8.toNat_inj.1 (by omega)
    subst this
    simp
theorem cmp_swap : ∀ (a b : List UInt8), Lib.compareBytes b a = - Lib.compareBytes a b
 | [], [] => rfl
 | [], _ :: _ => rfl
 | _ :: _, [] => rfl
 | x :: a, y :: b => by
  rw [cmp_cons, cmp_cons, cmp_swap a b]
  by_cases h1 : x.toNat < y.toNat
  ·rw [if_neg (by omega), if_pos h1, if_pos h1]; rfl
  ·by_cases h2 : y.toNat < x.toNat
   ·rw [if_pos h2, if_neg h1, if_pos h2]
   ·rw [if_neg h2, if_neg h1, if_neg h1, if_neg h2]
theorem cmp_trans : ∀ (a b c : List UInt8), Lib.compareBytes a b < 0 → Lib.compareBytes b c < 0 → Lib.compareBytes a c < 0
 | [], b, [], h1, h2 => by
  cases b with
  | nil => exact h1
  | cons y b => simp [Lib.compareBytes] at h2
 | [], b, z :: c, h1, h2 => by simp [Lib.compareBytes]
 | x :: a, [], c, h1, h2 => by simp [Lib.compareBytes] at h1
 | x :: a, y :: b, [], h1, h2 => by simp [Lib.compareBytes] at h2
 | x :: a, y :: b, z :: c, h1, h2 => by
  rw [cmp_cons] at h1 h2 ⊢
  have ih := cmp_trans a b c
  generalize x.toNat = x at *
  generalize y.toNat = y at *
  generalize z.toNat = z at *
  split at h1 <;> split at h2 <;> split <;> (try omega)
  all_goals (try split at h1) <;> (try split at h2) <;> (try split) <;> (try omega)
  all_goals (exact ih h1 h2)
def SrtF (fs : List Fd) : Prop := ∀ i j (hi : i < fs.length) (hj : j < fs.length), i < j → Lib.compareBytes fs[i].1 fs[j].1 < 0
theorem SrtF.mono {fs : List Fd} (h : SrtF fs) (t : List UInt8) : ∀ a b (ha : a < fs.length) (hb : b < fs.length), a ≤ b → Lib.compareBytes fs[b].1 t < 0 → Lib.compareBytes fs[a].1 t < 0 := by
 intro a b ha hb hab hlt
 rcases Nat.lt_or_eq_of_le hab with h1 | h1
 ·exact cmp_trans _ _ _ (h a b ha hb h1) hlt
 ·subst h1; exact hlt
def posF (fs : List Fd) (t : List UInt8) : Nat := (fs.takeWhile fun x => decide (Lib.compareBytes x.1 t < 0)).length
def putF (fs : List Fd) (t v : List UInt8) : List Fd :=
 if (fs[posF fs t]?).map (·.1) = some t then fs.set (posF fs t) (t, v) else fs.take (posF fs t) ++ (t, v) :: fs.drop (posF fs t)
theorem posF_eq : ∀ (fs : List Fd) (t : List UInt8) (i : Nat), i ≤ fs.length → (∀ j (h : j < fs.length), j < i → Lib.compareBytes fs[j].1 t < 0) → (∀ j (h : j < fs.length), i ≤ j → 0 ≤ Lib.compareBytes fs[j].1 t) → posF fs t = i
 | [], t, i, h, _, _ => by simp at h; subst h; rfl
 | x :: fs, t, 0, h, _, h2 => by
  have := h2 0 (by simp) (Nat.le_refl _)
  unfold posF
  rw [List.takeWhile_cons, if_neg (by simpa using this)]
  rfl
 | x :: fs, t, i + 1, h, h1, h2 => by
  have h3 := h1 0 (by simp) (by omega)
  have ih := posF_eq fs t i (by simpa using h) (fun j hj hi => h1 (j + 1) (by simpa using hj) (by omega)) (fun j hj hi => h2 (j + 1) (by simpa using hj) (by omega))
  unfold posF at ih ⊢
  rw [List.takeWhile_cons, if_pos (by simpa using h3), List.length_cons, ih]
theorem SeaP.pos {fs : List Fd} {t : List UInt8} {i : Nat} {b : Bool} (h : SeaP fs t i b) : posF fs t = i := posF_eq fs t i h.le h.lo h.hi
theorem SeaP.yes {fs : List Fd} {t : List UInt8} {i : Nat} (h : SeaP fs t i true) (v : List UInt8) : ∃ hi : i < fs.length, fs[i].1 = t ∧ putF fs t v = fs.set i (fs[i].1, v) := by
 obtain ⟨hi, h0⟩ := h.at_.1 rfl
 have he := (cmp_zero _ _).1 h0
 refine ⟨hi, he, ?_⟩
 unfold putF
 rw [h.pos, List.getElem?_eq_getElem hi, if_pos (by simp [he]), he]
theorem SeaP.no {fs : List Fd} {t : List UInt8} {i : Nat} (h : SeaP fs t i false) (v : List UInt8) : putF fs t v = fs.take i ++ (t, v) :: fs.drop i := by
 unfold putF
 rw [h.pos, if_neg]
 intro he
 rcases Nat.lt_or_ge i fs.length with hi | hi
 ·rw [List.getElem?_eq_getElem hi] at he
  have h1 : fs[i].1 = t := by simpa using he
  have := h.at_.2 ⟨hi, (cmp_zero _ _).2 h1⟩
  cases this
 ·rw [List.getElem?_eq_none hi] at he
  cases he
theorem ins_at (l : List Fd) (x : Fd) (i : Nat) (hi : i ≤ l.length) (j : Nat) (hj : j < (l.take i ++ x :: l.drop i).length) : (l.take i ++ x :: l.drop i)[j] = if h : j < i then l[j]'(by omega) else if h' : j = i then x else l[j - 1]'(by simp at hj; omega) := by
 have hlt : (l.take i).length = i := by rw [List.length_take]; omega
 by_cases h : j < i
 ·rw [dif_pos h, List.getElem_append_left (by omega), List.getElem_take]
 ·rw [dif_neg h, List.getElem_append_right (by omega)]
  by_cases h' : j = i
  ·rw [dif_pos h']
   simp [hlt, h']
  ·rw [dif_neg h']
   obtain ⟨q, rfl⟩ : ∃ q, j = i + 1 + q := ⟨j - i - 1, by omega⟩
   have e1 : i + 1 + q - (l.take i).length = q + 1 := by omega
   simp only [e1, List.getElem_cons_succ, List.getElem_drop]
   congr 1
   omega
theorem ins_set (l : List Fd) (x y : Fd) (i : Nat) (hi : i ≤ l.length) : (l.take i ++ x :: l.drop i).set i y = l.take i ++ y :: l.drop i := by
 have h : (l.take i).length = i := by rw [List.length_take]; omega
 rw [List.set_append_right _ _ (by omega), h, Nat.sub_self]
 rfl
theorem SrtF.put {fs : List Fd} (h : SrtF fs) {t : List UInt8} {i : Nat} {b : Bool} (hs : SeaP fs t i b) (v : List UInt8) : SrtF (putF fs t v) := by
 cases b with
 | true =>
  obtain ⟨hi, he, hp⟩ := hs.yes v
  rw [hp]
  intro j k hj hk hjk
  rw [List.length_set] at hj hk
  have := h j k hj hk hjk
  rw [List.getElem_set, List.getElem_set]
  by_cases e1 : i = j
  ·subst e1
   rw [if_pos rfl, if_neg (by omega)]
   exact this
  ·rw [if_neg e1]
   by_cases e2 : i = k
   ·subst e2
    rw [if_pos rfl]
    exact this
   ·rw [if_neg e2]
    exact this
 | false =>
  rw [hs.no v]
  intro j k hj hk hjk
  have hle := hs.le
  have hlen : (fs.take i ++ (t, v) :: fs.drop i).length = fs.length + 1 := by simp; omega
  rw [ins_at fs _ i hle j hj, ins_at fs _ i hle k hk]
  have hgt : ∀ q (hq : q < fs.length), i ≤ q → Lib.compareBytes t fs[q].1 < 0 := fun q hq hiq => by
   have h1 := hs.hi q hq hiq
   rcases Int.lt_or_eq_of_le h1 with h2 | h2
   ·rw [cmp_swap]; omega
   ·exfalso
    have he := (cmp_zero _ _).1 h2.symm
    rcases Nat.lt_or_eq_of_le hiq with h3 | h3
    ·have h4 := hs.hi i (by omega) (Nat.le_refl _)
     have h5 := h i q (by omega) hq h3
     rw [he] at h5
     omega
    ·subst h3
     have := hs.at_.2 ⟨hq, h2.symm⟩
     cases this
  by_cases a1 : j < i
  ·rw [dif_pos a1]
   by_cases a2 : k < i
   ·rw [dif_pos a2]
    exact h j k _ _ hjk
   ·rw [dif_neg a2]
    by_cases a3 : k = i
    ·rw [dif_pos a3]
     exact hs.lo j _ a1
    ·rw [dif_neg a3]
     exact h j (k - 1) _ _ (by omega)
  ·rw [dif_neg a1, dif_neg (by omega : ¬ k < i), dif_neg (by omega : ¬ k = i)]
   by_cases a3 : j = i
   ·rw [dif_pos a3]
    exact hgt (k - 1) _ (by omega)
   ·rw [dif_neg a3]
    exact h (j - 1) (k - 1) _ _ (by omega)
theorem SeaP.len {fs : List Fd} {t : List UInt8} {i : Nat} {b : Bool} (hs : SeaP fs t i b) (v : List UInt8) : fs.length ≤ (putF fs t v).length ∧ (putF fs t v).length ≤ fs.length + 1 := by
 cases b with
 | true =>
  obtain ⟨hi, he, hp⟩ := hs.yes v
  rw [hp, List.length_set]
  omega
 | false =>
  rw [hs.no v]
  have := hs.le
  simp
  omega
def cutG (s : List UInt8) (g : Grp) : List UInt8 := (s.take g.2.2.toNat).drop g.2.1.toNat
def extF (s : List UInt8) : List Grp → List Fd → List Fd
 | [], fs => fs
 | g :: gs, fs => extF s gs (putF fs g.1 (cutG s g))
theorem extF_snoc (s : List UInt8) : ∀ (gs : List Grp) (g : Grp) (fs : List Fd), extF s (gs ++ [g]) fs = putF (extF s gs fs) g.1 (cutG s g)
 | [], g, fs => rfl
 | x :: gs, g, fs => by rw [List.cons_append, extF, extF_snoc s gs g, extF]
theorem extF_take (s : List UInt8) (gs : List Grp) (fs : List Fd) (n : Nat) (h : n < gs.length) : extF s (gs.take (n + 1)) fs = putF (extF s (gs.take n) fs) gs[n].1 (cutG s gs[n]) := by
 rw [List.take_succ_eq_append_getElem h, extF_snoc]
def GrpOk (n : Nat) (g : Grp) : Prop := ∃ f e : Nat, g.2.1 = (f : Int) ∧ g.2.2 = (e : Int) ∧ f ≤ e ∧ e ≤ n
def FldR (t : NT) (s : List UInt8) (fs fs' : List Fd) : Prop :=
 (∃ (at_ xe : Nat) (ms : List Mt.Mk), at_ ≤ s.length ∧ (∀ k, k < at_ → Mt.matR s t false k = none) ∧ Mt.matR s t false at_ = some (xe, ms) ∧ fs' = if (extF s (mgrp t ms) fs).length ≤ 32 then extF s (mgrp t ms) fs else fs) ∨
 ((∀ k, k ≤ s.length → Mt.matR s t false k = none) ∧ fs' = fs)
theorem FndV.yes {t : NT} {s : List UInt8} {F : Nat → Prop} {w : World} {p q : Int} {a : Option Addr} {m c : Nat} (h : FndV t s F w (.tuple #[.agg #[.int .i64 p, .int .i64 q, .slice a m c], .bool true])) : ∃ (at_ xe : Nat) (ms : List Mt.Mk), at_ ≤ s.length ∧ (∀ k, k < at_ → Mt.matR s t false k = none) ∧ Mt.matR s t false at_ = some (xe, ms) ∧ m = (mgrp t ms).length ∧ RW F 3 GrR w (mgrp t ms) (.slice a m c) := by
 obtain ⟨x, y, ms, a', c', h1, h2, h3, h4, h5⟩ | ⟨_, h⟩ := h
 ·simp at h4
  obtain ⟨_, _, h6, h7, h8⟩ := h4
  subst h6 h7 h8
  exact ⟨x, y, ms, h1, h2, h3, rfl, h5⟩
 ·simp at h
theorem FndV.no {t : NT} {s : List UInt8} {F : Nat → Prop} {w : World} {p q : Int} {a : Option Addr} {m c : Nat} (h : FndV t s F w (.tuple #[.agg #[.int .i64 p, .int .i64 q, .slice a m c], .bool false])) : ∀ k, k ≤ s.length → Mt.matR s t false k = none := by
 obtain ⟨x, y, ms, a', c', h1, h2, h3, h4, h5⟩ | ⟨h, _⟩ := h
 ·simp at h4
 ·exact h
theorem text_ev {F : Nat → Prop} (ls : List Ln) (e : Ev) (w : World) (h : RW F 3 LnR w ls e.lv) (hfv : ∃ a n c, e.fv = .slice a n c) (hn : ls.length ≤ 1000) (ht : (txtL ls).length ≤ 1000000) :
  Calls Tryz.prog 29 #[.agg (evC e)] w fun e w' => e = .returned (.string ⟨(txtL ls).toArray⟩) ∧ Below w.heap.size w w' := by
 obtain ⟨h0, h1, h2, h3, lv, h5, h6, h7, h8, fv⟩ := e
 obtain ⟨a, n, c, hfv⟩ := hfv
 simp only at h hfv
 subst hfv
 exact text_any ls lv h0 h1 h2 h3 h5 h6 h7 h8 a n c w h hn ht
end Go.Proofs.YtmpbjaodgajnfaaGreatDoor
namespace Go.Proofs.YtmpbjaodgajnfaaGreatDoor
open Go.RowKit
theorem ext_cut (s : List UInt8) (f e : Nat) : (ByteArray.mk s.toArray).extract f e = ⟨((s.take e).drop f).toArray⟩ := by
 have := Asc.extract_seg s f e
 rw [this]
 unfold Asc.seg
 congr 2
 rw [List.take_drop]
 rcases Nat.le_total f e with h | h
 ·rw [Nat.add_sub_cancel' h]
 ·rw [Nat.sub_eq_zero_of_le h, List.drop_of_length_le (by rw [List.length_take]; omega), List.drop_of_length_le (by rw [List.length_take]; omega)]
def FstM (t : NT) (s : List UInt8) (at_ xe : Nat) (ms : List Mt.Mk) : Prop := at_ ≤ s.length ∧ (∀ k, k < at_ → Mt.matR s t false k = none) ∧ Mt.matR s t false at_ = some (xe, ms)
def FieP (t : NT) (s : List UInt8) (fs : List Fd) (e : Ev) (F : Nat → Prop) (w : World) (en : Ending) (w' : World) : Prop :=
 ∃ fs' fv', en = .returned (.agg (evC { e with fv := fv' })) ∧ RW (fun b => F b ∨ w.heap.size ≤ b) 2 FdR w' fs' fv' ∧ (fs' = [] → fv' = .slice none 0 0) ∧ FldR t s fs fs'
set_option maxHeartbeats 16000000 in
set_option maxRecDepth 1000000 in
theorem fields_any {K : List Fd → Nat → Prop} (HI : InsLaw K) (t : NT) (nv : Value) (e : Ev) (ls : List Ln) (fs : List Fd) {F : Nat → Prop} (w : World) (hN : NAt w t nv) (hk : Kinds w) (hck : ckE t = 0) (hco : Mt.costN t ≤ 4000)
  (hl : RW F 3 LnR w ls e.lv) (hf : RW F 2 FdR w fs e.fv) (hz : fs = [] → e.fv = .slice none 0 0) (hln : ls.length ≤ 1000) (ht : (txtL ls).length ≤ 20000) (hfn : fs.length ≤ 900) (hs : SrtF fs)
  (hg : ∀ at_ xe ms, FstM t (txtL ls) at_ xe ms → ∀ g ∈ mgrp t ms, GrpOk (txtL ls).length g)
  (hK : ∀ at_ xe ms, FstM t (txtL ls) at_ xe ms → ∀ n (h : n < (mgrp t ms).length) i, SeaP (extF (txtL ls) ((mgrp t ms).take n) fs) (mgrp t ms)[n].1 i false → K (extF (txtL ls) ((mgrp t ms).take n) fs) i) :
  Calls Tryz.prog 15 #[nv, .agg (evC e)] w fun en w' => FieP t (txtL ls) fs e F w en w' ∧ Below w.heap.size w w' := by
 have hzero := (zero_of_info infoEv).1
 have hn16 := Mt.nsN_16 hck
 obtain ⟨fa, fc, hfv⟩ : ∃ a c, e.fv = .slice a fs.length c := by
  obtain ⟨a, c, h, _⟩ := hf
  exact ⟨a, c, h⟩
 have hok : e.Ok := by
  obtain ⟨a, c, h, _⟩ := hl
  exact ⟨by rw [h]; rfl, by rw [hfv]; rfl⟩
 obtain ⟨op, rs, nm, kids, mn, mx, ra, rc, a, c, e0, rfl, _⟩ := hN.open
 clear e0
 obtain ⟨nk, hnk⟩ : ∃ n, kids.length = n := ⟨_, rfl⟩
 obtain ⟨nr, hnr⟩ : ∃ n, rs.length = n := ⟨_, rfl⟩
 rw [hnk, hnr] at hN ⊢
 obtain ⟨W1, hW1⟩ : ∃ W1, w.alloc (.cells #[.int .i64 op, .slice ra nr rc, .string ⟨nm.toArray⟩, .slice a nk c, .int .i64 mn, .int .i64 mx] 33) = W1 := ⟨_, rfl⟩
 have s1 : W1.heap.size = w.heap.size + 1 := by rw [← hW1]; exact Deep.nblk_alloc _ _
 have b1 : Below w.heap.size w W1 := by rw [← hW1]; exact (Below.refl _ _).alloc (Nat.le_refl _) _
 have x1 : W1.heap[w.heap.size]? = some (.cells #[.int .i64 op, .slice ra nr rc, .string ⟨nm.toArray⟩, .slice a nk c, .int .i64 mn, .int .i64 mx] 33 (0, 0)) := by rw [← hW1]; exact Deep.blk_alloc_new w _
 obtain ⟨W2, hW2⟩ : ∃ W2, W1.alloc (.cells (evC e) 44) = W2 := ⟨_, rfl⟩
 have s2 : W2.heap.size = w.heap.size + 2 := by rw [← hW2, Deep.nblk_alloc, s1]
 have b2 : Below w.heap.size w W2 := by rw [← hW2]; exact b1.alloc b1.size _
 have x12 : W2.heap[w.heap.size]? = W1.heap[w.heap.size]? := by rw [← hW2]; exact Deep.blk_alloc_lt _ _ _ (by omega)
 have x2 : W2.heap[w.heap.size + 1]? = some (.cells (evC e) 44 (0, 0)) := by rw [← hW2, ← s1]; exact Deep.blk_alloc_new _ _
 obtain ⟨W3, hW3⟩ : ∃ W3, W2.alloc (.cells (evC ev0) 44) = W3 := ⟨_, rfl⟩
 have s3 : W3.heap.size = w.heap.size + 3 := by rw [← hW3, Deep.nblk_alloc, s2]
 have b3 : Below w.heap.size w W3 := by rw [← hW3]; exact b2.alloc b2.size _
 have y1 : W3.heap[w.heap.size]? = some (.cells #[.int .i64 op, .slice ra nr rc, .string ⟨nm.toArray⟩, .slice a nk c, .int .i64 mn, .int .i64 mx] 33 (0, 0)) := by rw [← hW3]; exact (Deep.blk_alloc_lt _ _ _ (by omega)).trans (x12.trans x1)
 have y2 : W3.heap[w.heap.size + 1]? = some (.cells (evC e) 44 (0, 0)) := by rw [← hW3]; exact (Deep.blk_alloc_lt _ _ _ (by omega)).trans x2
 have y3 : W3.heap[w.heap.size + 2]? = some (.cells (evC ev0) 44 (0, 0)) := by rw [← hW3, ← s2]; exact Deep.blk_alloc_new _ _
 have HB3 := Lib.hid b3
 have HY1 := Lib.hid y1
 have HY2 := Lib.hid y2
 have HY3 := Lib.hid y3
 have HS3 := Lib.hid s3
 have hlw : ∀ (W : World), Below w.heap.size w W → RW F 3 LnR W ls e.lv := fun W hb => hl.go (F' := F) ⟨hb.size, fun k hF hk => ⟨hF, hb.block k hk⟩⟩ (fun _ _ h => h)
 have hfw : ∀ (W : World), Below w.heap.size w W → RW (fun b => F b ∧ b < w.heap.size) 2 FdR W fs e.fv := fun W hb => hf.go ⟨hb.size, fun k hF hk => ⟨⟨hF, hk⟩, hb.block k hk⟩⟩ (fun _ _ h => h)
 have HLW := Lib.hid hlw
 have HFW := Lib.hid hfw
 have HNW := Lib.hid (fun (W : World) (hb : Below w.heap.size w W) => NAt.later hb _ _ hN)
 have HKW := Lib.hid (fun (W : World) (hb : Below w.heap.size w W) => hk.below hb)
 have HTX := Lib.hid (text_ev ls e W3 (hlw W3 b3) ⟨_, _, _, hfv⟩ hln (Nat.le_trans ht (by decide)))
 have HCK := Lib.hid hck
 have HCO := Lib.hid hco
 have HT := Lib.hid ht
 have HG := Lib.hid hg
 have HK := Lib.hid hK
 have HZ := Lib.hid hz
 have HSR := Lib.hid hs
 have HFV := Lib.hid hfv
 have HOK := Lib.hid hok
 have HFN := Lib.hid hfn
 clear x1 x12 x2 y1 y2 y3 b1 b2 b3 s3 hlw hfw hl hf hN hk hck hco ht hg hK hz hs hfv hok hfn hln hnk hnr
 obtain ⟨s, hsx⟩ : ∃ s, txtL ls = s := ⟨_, rfl⟩
 rw [hsx] at HTX HT HG HK ⊢
 clear hsx
 go_enter Tryz.func15, Tryz.ntmps15
 go_wp2_with (refine wpl_load_ev rfl _ rfl (w.heap.size + 1) rfl e HY2.out ?_)
 refine HTX.out.mono ?_
 rintro en w4 ⟨rfl, hb4⟩
 have HB4 : Hid (Below w.heap.size w w4) := Lib.hid (HB3.out.trans (hb4.mono HB3.out.size))
 have HE4 := Lib.hid ((hb4.block _ (heap_lt HY2.out)).trans HY2.out)
 have HR4 := Lib.hid ((hb4.block _ (heap_lt HY3.out)).trans HY3.out)
 obtain ⟨j0, j1, j2, j3, j4, j5⟩ := box6 ((hb4.block _ (heap_lt HY1.out)).trans HY1.out)
 have HS4 : Hid (w.heap.size + 3 ≤ w4.heap.size) := Lib.hid (by rw [← HS3.out]; exact hb4.size)
 have HFI := Lib.hid (Find_any t _ s w4 (HNW.out w4 HB4.out) (HKW.out w4 HB4.out) HT.out HCK.out HCO.out)
 clear hb4 HNW HKW HTX
 go_wp2_with fail
 refine HFI.out.mono ?_
 rintro en w5 ⟨v, rfl, hv, hb5⟩
 obtain ⟨p, q, ga, m, gc, ok, rfl⟩ := hv.two
 have HV := Lib.hid hv
 obtain ⟨W6, hW6⟩ : ∃ W6, w5.alloc (.cells #[.int .i64 p, .int .i64 q, .slice ga m gc] 80) = W6 := ⟨_, rfl⟩
 have b6 : Below w5.heap.size w5 W6 := by rw [← hW6]; exact (Below.refl _ _).alloc (Nat.le_refl _) _
 have s6 : W6.heap.size = w5.heap.size + 1 := by rw [← hW6]; exact Deep.nblk_alloc _ _
 have x6 : W6.heap[w5.heap.size]? = some (.cells #[.int .i64 p, .int .i64 q, .slice ga m gc] 80 (0, 0)) := by rw [← hW6]; exact Deep.blk_alloc_new _ _
 have b46 : Below w4.heap.size w4 W6 := hb5.trans (b6.mono hb5.size)
 have HB6 : Hid (Below w.heap.size w W6) := Lib.hid (HB4.out.trans (b46.mono HB4.out.size))
 have HE6 := Lib.hid ((b46.block _ (heap_lt HE4.out)).trans HE4.out)
 have HR6 := Lib.hid ((b46.block _ (heap_lt HR4.out)).trans HR4.out)
 have HX6 := Lib.hid x6
 have HB56 := Lib.hid b6
 have HS6 : Hid (w.heap.size + 3 ≤ w5.heap.size ∧ W6.heap.size = w5.heap.size + 1) := Lib.hid ⟨Nat.le_trans HS4.out hb5.size, s6⟩
 have k62 : W6.cell? ⟨w5.heap.size, 2, none⟩ = some (.slice ga m gc) := by rw [Lib.cell_of_heap x6]; rfl
 have k61 : W6.cell? ⟨w5.heap.size, 1, none⟩ = some (.int .i64 q) := by rw [Lib.cell_of_heap x6]; rfl
 have k60 : W6.cell? ⟨w5.heap.size, 0, none⟩ = some (.int .i64 p) := by rw [Lib.cell_of_heap x6]; rfl
 clear hb5 b6 b46 s6 x6 hv HFI
 have HFIN : Hid (∀ (e' : Ev) (fs' : List Fd) (W W' : World), e' = { e with fv := e'.fv } → Below w.heap.size w W → Below (w.heap.size + 2) W W' → RW (fun b => (F b ∧ b < w.heap.size) ∨ w.heap.size + 3 ≤ b) 2 FdR W fs' e'.fv → (fs' = [] → e'.fv = .slice none 0 0) → FldR t s fs fs' → (∀ k, k ≠ w.heap.size + 2 → W'.heap[k]? = W.heap[k]?) → FieP t s fs e F w (.returned (.agg (evC e'))) W' ∧ Below w.heap.size w W') := Lib.hid (fun e' fs' W W' he hb hb2 hr hz hR hk => by
  refine ⟨⟨fs', e'.fv, by rw [← he], hr.go ⟨hb2.size, fun b hb3 hl => ⟨?_, hk b ?_⟩⟩ (fun _ _ h => h), hz, hR⟩, hb.trans (hb2.mono (by omega))⟩
  ·rcases hb3 with h | h
   ·exact .inl h.1
   ·exact .inr (by omega)
  ·rcases hb3 with h | h
   ·omega
   ·omega)
 cases ok with
 | false =>
  obtain ⟨w7, e7, h7, hb7, hk7, e7'⟩ := put_ev HR6.out e HOK.out
  have HNO := Lib.hid HV.out.no
  have H7 := Lib.hid (And.intro h7 (And.intro hb7 hk7))
  clear h7 hb7 hk7 k62 k61 k60
  go_wp2_with (refine wpl_load_ev rfl _ rfl (w.heap.size + 1) rfl e HE6.out ?_)
  exact ret_ev rfl H7.out.1 rfl rfl (HFIN.out e fs W6 _ rfl HB6.out H7.out.2.1 ((HFW.out W6 HB6.out).go ⟨Nat.le_refl _, fun k h _ => ⟨.inl h, rfl⟩⟩ (fun _ _ h => h)) HZ.out (.inr ⟨HNO.out, rfl⟩) H7.out.2.2)
 | true =>
  obtain ⟨at_, xe, ms, hat, hno, hyes, hm, hgr⟩ := HV.out.yes
  have hml : m ≤ 16 := by
   rw [hm, mgrp_len]
   unfold Mt.cntM
   exact Nat.le_trans (List.length_filter_le _ _) (by rw [List.length_range]; exact hn16)
  have HGO := Lib.hid (HG.out at_ xe ms ⟨hat, hno, hyes⟩)
  obtain ⟨gs, hgs⟩ : ∃ gs, mgrp t ms = gs := ⟨_, rfl⟩
  rw [hgs] at hm hgr HGO
  have HKO : Hid (∀ n (h : n < gs.length) i, SeaP (extF s (gs.take n) fs) gs[n].1 i false → K (extF s (gs.take n) fs) i) := Lib.hid (by subst hgs; exact HK.out at_ xe ms ⟨hat, hno, hyes⟩)
  have HRES : Hid (FldR t s fs (if (extF s gs fs).length ≤ 32 then extF s gs fs else fs)) := Lib.hid (.inl ⟨at_, xe, ms, hat, hno, hyes, by rw [hgs]⟩)
  have HM : Hid (gs.length = m) := Lib.hid hm.symm
  have HGR := Lib.hid hgr
  have hfl900 : fs.length ≤ 900 := HFN.out
  have k9 : W6.cell? ⟨w.heap.size + 1, 9, none⟩ = some e.fv := by rw [Lib.cell_of_heap HE6.out]; rfl
  have HCL := Lib.hid (clone_any fs e.fv W6 (HFW.out W6 HB6.out) HZ.out (by omega))
  clear hat hno hyes hm hgs hgr HG HK HV
  go_wp2_with fail
  refine HCL.out.mono ?_
  rintro en w7 ⟨cv, rfl, hor7, hb7, hz7⟩
  have k72 := (hb7.cell (p := ⟨w5.heap.size, 2, none⟩) (by show w5.heap.size < W6.heap.size; have := HS6.out.2; omega)).trans k62
  have HOR7 := Lib.hid hor7
  have HB7 := Lib.hid hb7
  have HZ7 := Lib.hid hz7
  clear hor7 hb7 hz7 k60 k61 k62 k9 HCL
  go_wp2_with fail
  go_loopw [8, 30] (fun v i wr => ∃ (n : Nat) (cur : List Fd), i = .int .i64 (n : Int) ∧ n ≤ m ∧ Hid (cur = extF s (gs.take n) fs) ∧ Hid (SrtF cur) ∧ Hid (cur.length ≤ fs.length + n) ∧ Hid (OR W6.heap.size 52 2 FdR wr cur v) ∧ Hid (Below W6.heap.size W6 wr) ∧ Hid (cur = [] → v = .slice none 0 0)) (fun _ i _ => m - (intOf i).toNat)
  case atStart => exact ⟨0, fs, rfl, Nat.zero_le _, Lib.hid rfl, HSR, Lib.hid (by omega), HOR7, HB7, HZ7⟩
  case round =>
   obtain ⟨n, cur, rfl, hnm, HCU, HSC, HLC, HOR, HB, HNZ⟩ := hrel
   have hcl : cur.length ≤ 1000 := by have := HLC.out; omega
   obtain ⟨ca, cc, rfl, _⟩ := HOR.out.rw (F := fun _ => True) (fun _ _ => trivial)
   by_cases hlt : n < m
   ·obtain ⟨a', c', e', _, hk⟩ := HGR.out
    injection e' with e1 e2 e3
    subst e1 e3
    clear e2
    obtain ⟨blk, off, ha, hbl, _, hcc⟩ := hk (by rw [HM.out]; omega)
    subst ha
    obtain ⟨us, hus, hcell, hr⟩ := hcc n (by rw [HM.out]; exact hlt)
    unfold GrR encG at hr
    subst hr
    have hgo := HGO.out (gs[n]'(by rw [HM.out]; exact hlt)) (List.getElem_mem _)
    have hext := extF_take s gs fs n (by rw [HM.out]; exact hlt)
    obtain ⟨gx, hgx⟩ : ∃ g, gs[n]'(by rw [HM.out]; exact hlt) = g := ⟨_, rfl⟩
    rw [hgx] at hcell hgo hext
    obtain ⟨gn, g1, g2⟩ := gx
    obtain ⟨f, x, hf1, hx1, hfx, hxl⟩ := hgo
    simp only at hf1 hx1 hcell hext
    subst hf1 hx1
    have hb5r : Below w5.heap.size w5 wr := HB56.out.trans (HB.out.mono (by rw [HS6.out.2]; omega))
    have c0 := (hb5r.cell (p := ⟨blk, off + n * 3 + 0, none⟩) hbl).trans (hcell 0 (by decide))
    have c1 := (hb5r.cell (p := ⟨blk, off + n * 3 + 1, none⟩) hbl).trans (hcell 1 (by decide))
    have c2 := (hb5r.cell (p := ⟨blk, off + n * 3 + 2, none⟩) hbl).trans (hcell 2 (by decide))
    simp only [Nat.add_zero, List.getElem?_cons_zero, List.getElem?_cons_succ] at c0 c1 c2
    rw [← HCU.out] at hext
    have hcut : cutG s (gn, (f : Int), (x : Int)) = (s.take x).drop f := rfl
    rw [hcut] at hext
    have HEX := Lib.hid hext
    have hw6r : W6.heap.size ≤ wr.heap.size := HB.out.size
    obtain ⟨Wa, hWa⟩ : ∃ Wa, wr.alloc (.cells #[.string ⟨gn.toArray⟩, .int .i64 (f : Int), .int .i64 (x : Int)] 85) = Wa := ⟨_, rfl⟩
    have ba : Below wr.heap.size wr Wa := by rw [← hWa]; exact (Below.refl _ _).alloc (Nat.le_refl _) _
    have sa : Wa.heap.size = wr.heap.size + 1 := by rw [← hWa]; exact Deep.nblk_alloc _ _
    have xa : Wa.heap[wr.heap.size]? = some (.cells #[.string ⟨gn.toArray⟩, .int .i64 (f : Int), .int .i64 (x : Int)] 85 (0, 0)) := by rw [← hWa]; exact Deep.blk_alloc_new _ _
    have k0 : Wa.cell? ⟨wr.heap.size, 0, none⟩ = some (.string ⟨gn.toArray⟩) := by rw [Lib.cell_of_heap xa]; rfl
    have HORa : Hid (OR W6.heap.size 52 2 FdR Wa cur (.slice ca cur.length cc)) := Lib.hid (HOR.out.keep (fun j _ hj => ba.block j hj) (fun _ _ h => h))
    have HSE := Lib.hid (search_any cur (.slice ca cur.length cc) gn Wa (HORa.out.rw (F := fun _ => True) (fun _ _ => trivial)) hcl (HSC.out.mono gn))
    have HXA := Lib.hid xa
    have HBA : Hid (Below W6.heap.size W6 Wa) := Lib.hid (HB.out.trans (ba.mono hw6r))
    have HSA := Lib.hid sa
    have HOWN : Hid (∀ j, (Value.slice ca cur.length cc).ownBlock = some j → j < wr.heap.size) := Lib.hid (fun j hj => (HOR.out.lt hj).2)
    have HGX := Lib.hid hgx
    clear hcell hus hcc hk hgx hext hcut hb5r ba xa sa
    go_wp2_with fail
    refine HSE.out.mono ?_
    rintro en w8 ⟨⟨i, bf, rfl, hsea⟩, hb8⟩
    have HSEA := Lib.hid hsea
    have hor8 : OR W6.heap.size 52 2 FdR w8 cur (.slice ca cur.length cc) := HORa.out.keep (fun j _ hj => hb8.block j hj) (fun _ _ h => h)
    have xa8 := (hb8.block _ (heap_lt HXA.out)).trans HXA.out
    have hb8' : Below W6.heap.size W6 w8 := HBA.out.trans (hb8.mono HBA.out.size)
    have q1 : (ByteArray.mk s.toArray).extract f x = ⟨((s.take x).drop f).toArray⟩ := ext_cut s f x
    have i1 : (f : Int) ≤ (x : Int) := by omega
    have i2 : (x : Int) ≤ (s.length : Int) := by omega
    have i3 : i ≤ cur.length := hsea.le
    cases bf with
    | true =>
     obtain ⟨hi, hn1, hput⟩ := hsea.yes ((s.take x).drop f)
     obtain ⟨g0, hca, hg0, hgl, hfz, hcg, hor9⟩ := or_put (s := (s.take x).drop f) hor8 hi
     subst hca
     have k1 : w8.cell? ⟨wr.heap.size, 1, none⟩ = some (.int .i64 (f : Int)) := by rw [Lib.cell_of_heap xa8]; rfl
     have k2 : w8.cell? ⟨wr.heap.size, 2, none⟩ = some (.int .i64 (x : Int)) := by rw [Lib.cell_of_heap xa8]; rfl
     have i4 : (i : Int) < (cur.length : Int) := by omega
     have HNE : Hid (cur.set i (cur[i].1, (s.take x).drop f) = [] → Value.slice (some ⟨g0, 0, none⟩) cur.length cc = .slice none 0 0) := Lib.hid (fun h => by have := congrArg List.length h; rw [List.length_set] at this; simp at this; rw [this] at hi; exact absurd hi (by simp))
     have HN : Hid (cur.set i (cur[i].1, (s.take x).drop f) = extF s (gs.take (n + 1)) fs) := Lib.hid (by rw [HEX.out, hput])
     have HSC9 : Hid (SrtF (cur.set i (cur[i].1, (s.take x).drop f))) := Lib.hid (by rw [← hput]; exact HSC.out.put HSEA.out _)
     have HL9 : Hid ((cur.set i (cur[i].1, (s.take x).drop f)).length ≤ fs.length + (n + 1)) := Lib.hid (by rw [List.length_set]; have := HLC.out; omega)
     have HOR9 : Hid (OR W6.heap.size 52 2 FdR (w8.setCell ⟨g0, i * 2 + 1, none⟩ (.string ⟨((s.take x).drop f).toArray⟩)) (cur.set i (cur[i].1, (s.take x).drop f)) (.slice (some ⟨g0, 0, none⟩) cur.length cc)) := Lib.hid hor9
     have HB9 : Hid (Below W6.heap.size W6 (w8.setCell ⟨g0, i * 2 + 1, none⟩ (.string ⟨((s.take x).drop f).toArray⟩))) := Lib.hid (hb8'.setCell (p := ⟨g0, i * 2 + 1, none⟩) hg0 _)
     clear hsea hput hn1 hor9 hor8 xa8 hb8' hb8
     go_wp2_with fail
     go_roundw
     case rel => exact ⟨n + 1, _, by go_num, by omega, HN, HSC9, HL9, HOR9, HB9, HNE⟩
     case measure => simp [intOf]; omega
    | false =>
     have hput := hsea.no ((s.take x).drop f)
     have k0' : w8.cell? ⟨wr.heap.size, 0, none⟩ = some (.string ⟨gn.toArray⟩) := by rw [Lib.cell_of_heap xa8]; rfl
     obtain ⟨Wb, hWb⟩ : ∃ Wb, w8.alloc (.cells #[.string ⟨gn.toArray⟩, .string ⟨#[]⟩] 52) = Wb := ⟨_, rfl⟩
     have bb : Below w8.heap.size w8 Wb := by rw [← hWb]; exact (Below.refl _ _).alloc (Nat.le_refl _) _
     have xb : Wb.heap[w8.heap.size]? = some (.cells #[.string ⟨gn.toArray⟩, .string ⟨#[]⟩] 52 (0, 0)) := by rw [← hWb]; exact Deep.blk_alloc_new _ _
     have horb : OR W6.heap.size 52 2 FdR Wb cur (.slice ca cur.length cc) := hor8.keep (fun j _ hj => bb.block j hj) (fun _ _ h => h)
     have hbb : Below W6.heap.size W6 Wb := hb8'.trans (bb.mono hb8'.size)
     have hxab := (bb.block _ (heap_lt xa8)).trans xa8
     have HXAB := Lib.hid hxab
     have HBB := Lib.hid hbb
     have hrw8 : wr.heap.size < w8.heap.size := heap_lt xa8
     have hki : K cur i := by
      have := HKO.out n (by rw [HM.out]; exact hlt) i
      rw [← HCU.out, HGX.out] at this
      exact this hsea
     have HIN := Lib.hid (HI W6.heap.size cur (.slice ca cur.length cc) gn [] i w8.heap.size Wb horb xb (fun h => by have := HOWN.out _ h; omega) hbb.size hcl i3 hki)
     have HPUT := Lib.hid hput
     clear hsea hput hor8 xa8 hb8' hb8 horb hbb hxab xb bb
     go_wp2_with fail
     refine HIN.out.mono ?_
     rintro en w9 ⟨v9, rfl, hor9, hb9, hk9⟩
     have hx9 := (hk9 wr.heap.size (heap_lt HXAB.out) (fun h => by have := HOWN.out _ h; omega)).trans HXAB.out
     have k1 : w9.cell? ⟨wr.heap.size, 1, none⟩ = some (.int .i64 (f : Int)) := by rw [Lib.cell_of_heap hx9]; rfl
     have k2 : w9.cell? ⟨wr.heap.size, 2, none⟩ = some (.int .i64 (x : Int)) := by rw [Lib.cell_of_heap hx9]; rfl
     have hlL : (cur.take i ++ (gn, []) :: cur.drop i).length = cur.length + 1 := by simp; omega
     have hset := ins_set cur (gn, []) (gn, (s.take x).drop f) i i3
     have hLi : (cur.take i ++ (gn, ([] : List UInt8)) :: cur.drop i)[i]'(by omega) = (gn, []) := by rw [ins_at cur _ i i3 i (by omega), dif_neg (Nat.lt_irrefl _), dif_pos rfl]
     obtain ⟨L, hL⟩ : ∃ L, cur.take i ++ (gn, ([] : List UInt8)) :: cur.drop i = L := ⟨_, rfl⟩
     simp only [hL] at hor9 hlL hset hLi
     obtain ⟨a9, c9, rfl, _⟩ := hor9.rw (F := fun _ => True) (fun _ _ => trivial)
     have hiL : i < L.length := by omega
     obtain ⟨g0, hca, hg0, hgl, hfz, hcg, hor10⟩ := or_put (s := (s.take x).drop f) hor9 hiL
     subst hca
     rw [hLi] at hor10 hcg
     simp only at hor10 hcg
     rw [hset, ← HPUT.out] at hor10
     have hl10 := HSEA.out.len ((s.take x).drop f)
     have HN : Hid (putF cur gn ((s.take x).drop f) = extF s (gs.take (n + 1)) fs) := Lib.hid (by rw [HEX.out])
     have HSC9 : Hid (SrtF (putF cur gn ((s.take x).drop f))) := Lib.hid (HSC.out.put HSEA.out _)
     have HL9 : Hid ((putF cur gn ((s.take x).drop f)).length ≤ fs.length + (n + 1)) := Lib.hid (by have := HLC.out; omega)
     have HOR9 : Hid (OR W6.heap.size 52 2 FdR (w9.setCell ⟨g0, i * 2 + 1, none⟩ (.string ⟨((s.take x).drop f).toArray⟩)) (putF cur gn ((s.take x).drop f)) (.slice (some ⟨g0, 0, none⟩) L.length c9)) := Lib.hid hor10
     have HB9 : Hid (Below W6.heap.size W6 (w9.setCell ⟨g0, i * 2 + 1, none⟩ (.string ⟨((s.take x).drop f).toArray⟩))) := Lib.hid ((HBB.out.trans hb9).setCell (p := ⟨g0, i * 2 + 1, none⟩) hg0 _)
     have i4 : (i : Int) < (L.length : Int) := by omega
     have HNE : Hid (putF cur gn ((s.take x).drop f) = [] → Value.slice (some ⟨g0, 0, none⟩) L.length c9 = .slice none 0 0) := Lib.hid (fun h => by exfalso; rw [HPUT.out] at h; simp at h)
     clear hor9 hb9 hk9 hx9 hset hLi hL hor10 hl10 hlL
     go_wp2_with fail
     go_roundw
     case rel => exact ⟨n + 1, _, by go_num, by omega, HN, HSC9, HL9, HOR9, HB9, HNE⟩
     case measure => simp [intOf]; omega
   ·obtain rfl : n = m := by omega
    have HCU2 : Hid (cur = extF s gs fs) := Lib.hid (by rw [HCU.out, List.take_of_length_le (by rw [HM.out]; exact Nat.le_refl _)])
    have HBW : Hid (Below w.heap.size w wr) := Lib.hid (HB6.out.trans (HB.out.mono HB6.out.size))
    have HEr := Lib.hid ((HB.out.block _ (heap_lt HE6.out)).trans HE6.out)
    have HRr := Lib.hid ((HB.out.block _ (heap_lt HR6.out)).trans HR6.out)
    by_cases h32 : cur.length ≤ 32
    ·have hres := HRES.out
     rw [← HCU2.out, if_pos h32] at hres
     have HRE := Lib.hid hres
     obtain ⟨Wn, hWn⟩ : ∃ Wn, wr.setCell ⟨w.heap.size + 1, 9, none⟩ (.slice ca cur.length cc) = Wn := ⟨_, rfl⟩
     have hn1 : Wn.heap[w.heap.size + 1]? = some (.cells (evC { e with fv := .slice ca cur.length cc }) 44 (0, 0)) := by rw [← hWn]; exact set_at HEr.out 9 _
     have hn2 : Wn.heap[w.heap.size + 2]? = some (.cells (evC ev0) 44 (0, 0)) := by rw [← hWn]; exact (Deep.blk_setCell_other _ _ _ _ (by show w.heap.size + 2 ≠ w.heap.size + 1; omega)).trans HRr.out
     have hbn : Below w.heap.size w Wn := by rw [← hWn]; exact HBW.out.setCell (p := ⟨w.heap.size + 1, 9, none⟩) (Nat.le_succ _) _
     have horn : OR W6.heap.size 52 2 FdR Wn cur (.slice ca cur.length cc) := HOR.out.keep (fun j hj hl => by rw [← hWn]; exact Deep.blk_setCell_other _ _ _ _ (by show j ≠ w.heap.size + 1; have := HS6.out; omega)) (fun _ _ h => h)
     have hzn := HNZ.out
     obtain ⟨w10, e10, h10, hb10, hk10, e10'⟩ := put_ev hn2 { e with fv := .slice ca cur.length cc } ⟨HOK.out.1, rfl⟩
     have k9 : wr.cell? ⟨w.heap.size + 1, 9, none⟩ = some e.fv := by rw [Lib.cell_of_heap HEr.out]; rfl
     have z9 := frz0 HEr.out 9
     have HN1 := Lib.hid hn1
     have H10 := Lib.hid (And.intro h10 (And.intro hb10 hk10))
     have HBN := Lib.hid hbn
     have HRN : Hid (RW (fun b => (F b ∧ b < w.heap.size) ∨ w.heap.size + 3 ≤ b) 2 FdR Wn cur (.slice ca cur.length cc)) := Lib.hid (horn.rw (fun b hb => .inr (by have := HS6.out; omega)))
     have HZN := Lib.hid hzn
     have i32 : (cur.length : Int) ≤ 32 := by omega
     clear hres hn1 hn2 hbn horn hzn h10 hb10 hk10
     go_wp2_with (refine wpl_load_ev rfl _ rfl (w.heap.size + 1) rfl _ HN1.out ?_)
     exact ret_ev rfl H10.out.1 rfl rfl (HFIN.out { e with fv := .slice ca cur.length cc } cur Wn _ rfl HBN.out H10.out.2.1 HRN.out HZN.out HRE.out H10.out.2.2)
    ·have hres := HRES.out
     rw [← HCU2.out, if_neg h32] at hres
     have HRE := Lib.hid hres
     obtain ⟨w10, e10, h10, hb10, hk10, e10'⟩ := put_ev HRr.out e HOK.out
     have H10 := Lib.hid (And.intro h10 (And.intro hb10 hk10))
     have i32 : ¬ (cur.length : Int) ≤ 32 := by omega
     clear hres h10 hb10 hk10
     go_wp2_with (refine wpl_load_ev rfl _ rfl (w.heap.size + 1) rfl e HEr.out ?_)
     exact ret_ev rfl H10.out.1 rfl rfl (HFIN.out e fs wr _ rfl HBW.out H10.out.2.1 ((HFW.out wr HBW.out).go ⟨Nat.le_refl _, fun k h _ => ⟨.inl h, rfl⟩⟩ (fun _ _ h => h)) HZ.out HRE.out H10.out.2.2)
end Go.Proofs.YtmpbjaodgajnfaaGreatDoor
namespace Go.Proofs.YtmpbjaodgajnfaaGreatDoor
open Go.RowKit
def EvR (x : Ev) (us : List Value) : Prop := us = (evC x).toList
abbrev Evd := Ev × List Ln × List Fd
structure EvI (F : Nat → Prop) (t : NT) (K : List Fd → Nat → Prop) (w : World) (d : Evd) : Prop where
 lines : RW F 3 LnR w d.2.1 d.1.lv
 flds : RW F 2 FdR w d.2.2 d.1.fv
 nil : d.2.2 = [] → d.1.fv = .slice none 0 0
 nl : d.2.1.length ≤ 1000
 nt : (txtL d.2.1).length ≤ 20000
 nf : d.2.2.length ≤ 900
 srt : SrtF d.2.2
 grp : ∀ at_ xe ms, FstM t (txtL d.2.1) at_ xe ms → ∀ g ∈ mgrp t ms, GrpOk (txtL d.2.1).length g
 ins : ∀ at_ xe ms, FstM t (txtL d.2.1) at_ xe ms → ∀ n (h : n < (mgrp t ms).length) i, SeaP (extF (txtL d.2.1) ((mgrp t ms).take n) d.2.2) (mgrp t ms)[n].1 i false → K (extF (txtL d.2.1) ((mgrp t ms).take n) d.2.2) i
def EvO (F : Nat → Prop) (t : NT) (w : World) (d : Evd) (x : Ev) : Prop := ∃ fs' fv', x = { d.1 with fv := fv' } ∧ RW F 2 FdR w fs' fv' ∧ (fs' = [] → fv' = .slice none 0 0) ∧ FldR t (txtL d.2.1) d.2.2 fs'
theorem EvO.go {F F' : Nat → Prop} {t : NT} {w w' : World} {d : Evd} {x : Ev} (h : EvO F t w d x) (hs : Stay F F' w w') : EvO F' t w' d x := by
 obtain ⟨fs', fv', h1, h2, h3, h4⟩ := h
 exact ⟨fs', fv', h1, h2.go hs (fun _ _ h => h), h3, h4⟩
theorem EvI.go {F F' : Nat → Prop} {t : NT} {K : List Fd → Nat → Prop} {w w' : World} {d : Evd} (h : EvI F t K w d) (hs : Stay F F' w w') : EvI F' t K w' d :=
 ⟨h.lines.go hs (fun _ _ h => h), h.flds.go hs (fun _ _ h => h), h.nil, h.nl, h.nt, h.nf, h.srt, h.grp, h.ins⟩
end Go.Proofs.YtmpbjaodgajnfaaGreatDoor
namespace Go.Proofs.YtmpbjaodgajnfaaGreatDoor
open Go.RowKit
theorem left_any (g : Nat) (w : World) (a : Option Addr) (cap n k : Nat) (b : Bool) (h0 : w.cell? ⟨g, 0, none⟩ = some (.slice a n cap)) (h1 : w.cell? ⟨g, 1, none⟩ = some (.int .i64 k)) (hb : decide ((k : Int) < (n : Int)) = b) :
  Calls Tryz.prog 45 #[.pointer (some ⟨g, 0, none⟩)] w fun e w' => e = .returned (.bool b) ∧ ∃ q, w' = w.drewN q := by
 go_enter Tryz.func45, Tryz.ntmps45
 go_wp2_with fail
 go_quiet (fail)
 go_wp2_with fail
 go_ret
 refine ⟨?_, _, rfl⟩
 rw [← hb]
 simp [go_sem]
set_option maxHeartbeats 1000000 in
theorem next_any (g n : Nat) (w : World) (hc : CodesAt w g) (hn : 0 < n) (hn2 : n ≤ 1000000) :
  Calls Tryz.prog 21 #[.pointer (some ⟨g, 0, none⟩), .int .i64 n] w fun e w' => ∃ k : Nat, k < n ∧ e = .returned (.int .i64 k) ∧ CodesAt w' g ∧ Apart g w w' := by
 have HCA := Lib.hid hc
 obtain ⟨hg, hf, a, cap, cs, k, c0, c1, hk, hl, hcs⟩ := hc
 have t1 : decide ((n : Int) < 1) = false := decide_eq_false (by omega)
 by_cases hlt : k < cs.length
 ·have HL := Lib.hid (left_any g w a cap cs.length k true c0 c1 (decide_eq_true (by omega)))
  obtain ⟨blk, off, rfl, hbg, hba⟩ := hcs (by omega)
  have HBA := Lib.hid hba
  have hcell := hba k hlt
  have hle := Asc.at_le hlt
  generalize Asc.at_ cs k = c at *
  have hn0 : ((n : Int) == 0) = false := by rw [beq_eq_false_iff_ne]; omega
  clear hba hcs
  go_enter Tryz.func21, Tryz.ntmps21
  go_wp2_with (go_at_call 45; refine HL.out.mono ?_; rintro e w1 ⟨rfl, q, rfl⟩; have c0' : (w.drewN q).cell? ⟨g, 0, none⟩ = some (.slice (some ⟨blk, off, none⟩) cs.length cap) := c0; have c1' : (w.drewN q).cell? ⟨g, 1, none⟩ = some (.int .i64 k) := c1; have f1' : (w.drewN q).frozen? ⟨g, 1, none⟩ = false := hf; have cc' : (w.drewN q).cell? ⟨blk, off + k, none⟩ = some (.int .u8 c) := hcell)
  have hk1 : (k : Int) + 1 - 1 = (k : Int) := by omega
  have i1 : (k : Int) < (cs.length : Int) := by omega
  have i2 : (0 : Int) ≤ (k : Int) := by omega
  have hsz : ∀ q, ((w.drewN q).setCell ⟨g, 1, none⟩ (.int .i64 ((k : Int) + 1))).heap.size = w.heap.size := fun q => by simp
  have HAP : Hid (∀ q, Apart g w ((w.drewN q).setCell ⟨g, 1, none⟩ (.int .i64 ((k : Int) + 1)))) := (show ∀ q, Apart g w ((w.drewN q).setCell ⟨g, 1, none⟩ (.int .i64 ((k : Int) + 1))) from fun q => ⟨(below_drewN (Below.refl _ _) q).setCell (p := ⟨g, 1, none⟩) (Nat.le_refl _) _, fun j h1 _ => (Below.heap_setCell _ _ _ j (by simp; omega)).trans rfl⟩)
  have HNEW : Hid (∀ q, CodesAt ((w.drewN q).setCell ⟨g, 1, none⟩ (.int .i64 ((k : Int) + 1))) g) := (show ∀ q, CodesAt ((w.drewN q).setCell ⟨g, 1, none⟩ (.int .i64 ((k : Int) + 1))) g from fun q =>
   ⟨by rw [hsz]; exact hg, by rw [World.frozen?_setCell]; exact hf, _, cap, cs, k + 1,
    by rw [World.cell?_setCell_other _ _ _ _ (by intro h; simp only [Addr.mk.injEq] at h; omega)]; exact c0,
    World.cell?_setCell_same _ _ _ (show (w.drewN q).cell? ⟨g, 1, none⟩ = some (.int .i64 k) from c1), by omega, hl,
    fun _ => ⟨blk, off, rfl, hbg, HBA.out.below fun i _ => by rw [World.cell?_setCell_other _ _ _ _ (by intro h; simp only [Addr.mk.injEq] at h; omega)]; rfl⟩⟩)
  clear hsz HCA
  go_quiet (fail)
  go_wp2_with fail
  go_ret
  have hz : 256 * n ≤ 256000000 := by omega
  refine ⟨c * n / 256, ?_, ?_, HNEW.out _, HAP.out _⟩
  ·rw [Nat.div_lt_iff_lt_mul (by omega)]
   have : c * n ≤ 255 * n := Nat.mul_le_mul_right _ hle
   omega
  ·have h0 : (c : Int) * (n : Int) = ((c * n : Nat) : Int) := by push_cast; rfl
   have h1 : c * n ≤ 255 * n := Nat.mul_le_mul_right _ hle
   have h2 : wrap64 ((c : Int) * (n : Int)) = ((c * n : Nat) : Int) := by rw [h0]; exact IntWalk.wrap64_in _ (by omega)
   have h3 : ((c * n : Nat) : Int).tdiv 256 = ((c * n / 256 : Nat) : Int) := by rw [Int.tdiv_eq_ediv_of_nonneg (by omega)]; rfl
   have h4 : wrap64 ((wrap64 ((c : Int) * (n : Int))).tdiv 256) = ((c * n / 256 : Nat) : Int) := by rw [h2, h3]; exact IntWalk.wrap64_in _ (by omega)
   rw [h4]
   rfl
 ·have HL := Lib.hid (left_any g w a cap cs.length k false c0 c1 (decide_eq_false (by omega)))
  clear hcs
  go_enter Tryz.func21, Tryz.ntmps21
  go_wp2_with (go_at_call 45; refine HL.out.mono ?_; rintro e w1 ⟨rfl, q, rfl⟩)
  go_ret
  have hb : Below w.heap.size w (w.drewN q) := below_drewN (Below.refl _ _) q
  exact ⟨0, hn, rfl, HCA.out.below hb, Apart.of_below hb hg⟩
theorem new_codes (w : World) (a : Option Addr) (cap : Nat) (cs : List UInt8) (hl : cs.length ≤ 1000) (hc : 0 < cs.length → ∃ blk off, a = some ⟨blk, off, none⟩ ∧ blk < w.heap.size ∧ BA w blk off cs) :
  CodesAt (w.alloc (.cells #[.slice a cs.length cap, .int .i64 0] 60)) w.heap.size := by
 refine ⟨by simp, by simp [go_sem], a, cap, cs, 0, by simp [go_sem], by simp [go_sem], by omega, hl, fun h => ?_⟩
 obtain ⟨blk, off, e, hb, hba⟩ := hc h
 exact ⟨blk, off, e, hb, hba.below fun i _ => ((Below.refl _ w).alloc (Nat.le_refl _) _).cell (p := ⟨blk, off + i, none⟩) hb⟩
theorem new_any (v : Value) (cs : List UInt8) (m : Nat) (w : World) (hb : BS w v cs) (hm : m ≤ 1000) :
  Calls Tryz.prog 7 #[v, .int .i64 m] w fun e w' => e = .returned (.pointer (some ⟨w.heap.size, 0, none⟩)) ∧ CodesAt w' w.heap.size ∧ Below w.heap.size w w' := by
 obtain ⟨a, cap, rfl, hcap, hc⟩ := hb
 have HC := Lib.hid hc
 clear hc
 by_cases hlt : m < cs.length
 ·obtain ⟨blk, off, rfl, hbl, hba⟩ := HC.out (by omega)
  have d1 : decide ((m : Int) < (cs.length : Int)) = true := decide_eq_true (by omega)
  have d2 : (m : Int) ≤ (cap : Int) := by omega
  have d3 : (0 : Int) ≤ (m : Int) := by omega
  have htl : (cs.take m).length = m := by rw [List.length_take]; omega
  have HN : Hid (CodesAt (w.alloc (.cells #[.slice (some ⟨blk, off, none⟩) m cap, .int .i64 0] 60)) w.heap.size) := by
   have h := new_codes w (some ⟨blk, off, none⟩) cap (cs.take m) (by omega) (fun _ => ⟨blk, off, rfl, hbl, fun i hi => by
    rw [htl] at hi
    rw [hba i (by omega), Asc.at_of (show i < cs.length by omega), Asc.at_of (show i < (cs.take m).length by omega)]
    simp⟩)
   rw [htl] at h
   exact h
  have e1 : min (cs.length : Int) (m : Int) = (m : Int) := Int.min_eq_right (by omega)
  clear HC htl hba
  go_enter Tryz.func7, Tryz.ntmps7
  go_wp2_with fail
  go_ret
  exact ⟨rfl, HN.out, (Below.refl _ _).alloc (Nat.le_refl _) _⟩
 ·have d1 : decide ((m : Int) < (cs.length : Int)) = false := decide_eq_false (by omega)
  have HN := Lib.hid (new_codes w a cap cs (by omega) HC.out)
  have e1 : min (cs.length : Int) (m : Int) = (cs.length : Int) := Int.min_eq_left (by omega)
  clear HC
  go_enter Tryz.func7, Tryz.ntmps7
  go_wp2_with fail
  go_ret
  exact ⟨rfl, HN.out, (Below.refl _ _).alloc (Nat.le_refl _) _⟩
end Go.Proofs.YtmpbjaodgajnfaaGreatDoor
namespace Go.Proofs.YtmpbjaodgajnfaaGreatDoor
open Go.RowKit
theorem short {fs : List (List UInt8)} {n : Nat} (h : fs.all (fun b => decide (b.length ≤ n)) = true) {x : List UInt8} (hx : x ∈ fs) : x.length ≤ n := by
 have := List.all_eq_true.1 h x hx
 simpa using this
def StrP (n g : Nat) (w : World) (e : Ending) (w' : World) : Prop := ∃ x : List UInt8, x.length ≤ n ∧ e = .returned (.string ⟨x.toArray⟩) ∧ CodesAt w' g ∧ Apart g w w'
def IntP (m g : Nat) (w : World) (e : Ending) (w' : World) : Prop := ∃ k : Nat, k ≤ m ∧ e = .returned (.int .i64 k) ∧ CodesAt w' g ∧ Apart g w w'
def LitP (g : Nat) (w : World) (fs : List (List UInt8)) (e : Ending) (w' : World) : Prop :=
 ∃ (k : Nat) (x : List UInt8), k < fs.length ∧ x ∈ fs ∧ e = .returned (.int .i64 k) ∧ w'.cell? ⟨w.heap.size, k, none⟩ = some (.string ⟨x.toArray⟩) ∧ CodesAt w' g ∧ Apart g w w'
theorem lit_next (g : Nat) (w : World) (fs : List (List UInt8)) (hc : CodesAt w g) (h0 : 0 < fs.length) (h1 : fs.length ≤ 1000) :
  Calls Tryz.prog 21 #[.pointer (some ⟨g, 0, none⟩), .int .i64 fs.length] (w.alloc (.cells (fs.map fun f => Value.string ⟨f.toArray⟩).toArray 9)) (LitP g w fs) := by
 have hb : Below w.heap.size w (w.alloc (.cells (fs.map fun f => Value.string ⟨f.toArray⟩).toArray 9)) := (Below.refl _ w).alloc (Nat.le_refl _) _
 refine (next_any g fs.length _ (hc.below hb) h0 (by omega)).mono ?_
 rintro e w' ⟨k, hk, rfl, h2, h3⟩
 refine ⟨k, fs[k], hk, List.getElem_mem hk, rfl, ?_, h2, (Apart.of_below hb hc.1).trans h3⟩
 rw [h3.cell (p := ⟨w.heap.size, k, none⟩) (by have := hc.1; simp; omega) (by simp)]
 simp [go_sem, hk]
def valueF : List (List UInt8) := [[119, 97, 114, 110], [105, 110, 102, 111], [55], [45, 51], [51, 49], [], [120, 32, 121], [57, 57, 57, 57, 57, 57, 57, 57, 57, 57, 57, 57, 57, 57, 57, 57, 57, 57], [49, 48, 48, 48, 48, 48, 48, 48, 48, 48, 48, 48, 48, 48, 48, 48, 48, 48, 48], [48, 55], [45]]
theorem dvalue_any (g : Nat) (w : World) (hc : CodesAt w g) : Calls Tryz.prog 95 #[.pointer (some ⟨g, 0, none⟩)] w (StrP 19 g w) := by
 have HN : Hid (Calls Tryz.prog 21 #[.pointer (some ⟨g, 0, none⟩), .int .i64 11] (w.alloc (.cells #[.string ⟨#[119, 97, 114, 110]⟩, .string ⟨#[105, 110, 102, 111]⟩, .string ⟨#[55]⟩, .string ⟨#[45, 51]⟩, .string ⟨#[51, 49]⟩, .string ⟨#[]⟩, .string ⟨#[120, 32, 121]⟩, .string ⟨#[57, 57, 57, 57, 57, 57, 57, 57, 57, 57, 57, 57, 57, 57, 57, 57, 57, 57]⟩, .string ⟨#[49, 48, 48, 48, 48, 48, 48, 48, 48, 48, 48, 48, 48, 48, 48, 48, 48, 48, 48]⟩, .string ⟨#[48, 55]⟩, .string ⟨#[45]⟩] 9)) (LitP g w valueF)) := lit_next g w valueF hc (by decide) (by decide)
 clear hc
 go_enter Tryz.func95, Tryz.ntmps95
 go_wp2_with fail
 refine HN.out.mono ?_
 rintro e w1 ⟨k, x, hk, hx, rfl, hcell, hca, hap⟩
 have hl := short (fs := valueF) (n := 19) (by decide) hx
 have hk2 : k < 11 := hk
 have i1 : (k : Int) < 11 := by omega
 have i2 : (0 : Int) ≤ (k : Int) := by omega
 have HC := Lib.hid hca
 have HA := Lib.hid hap
 clear hca hap hx hk HN
 go_wp2_with fail
 go_ret
 exact ⟨x, hl, rfl, HC.out, HA.out⟩
def wordF : List (List UInt8) := [[103, 101, 116], [101, 114, 114, 111, 114], [119, 97, 114, 110], [97, 49], [117, 115, 101, 114, 95, 55], [120], [84, 105, 109, 101, 111, 117, 116], [50, 48, 48], [71, 69, 84], [101, 114, 114, 111], [122], [], [255], [97, 46, 98]]
theorem dword_any (g : Nat) (w : World) (hc : CodesAt w g) : Calls Tryz.prog 94 #[.pointer (some ⟨g, 0, none⟩)] w (StrP 7 g w) := by
 have HN : Hid (Calls Tryz.prog 21 #[.pointer (some ⟨g, 0, none⟩), .int .i64 14] (w.alloc (.cells #[.string ⟨#[103, 101, 116]⟩, .string ⟨#[101, 114, 114, 111, 114]⟩, .string ⟨#[119, 97, 114, 110]⟩, .string ⟨#[97, 49]⟩, .string ⟨#[117, 115, 101, 114, 95, 55]⟩, .string ⟨#[120]⟩, .string ⟨#[84, 105, 109, 101, 111, 117, 116]⟩, .string ⟨#[50, 48, 48]⟩, .string ⟨#[71, 69, 84]⟩, .string ⟨#[101, 114, 114, 111]⟩, .string ⟨#[122]⟩, .string ⟨#[]⟩, .string ⟨#[255]⟩, .string ⟨#[97, 46, 98]⟩] 9)) (LitP g w wordF)) := lit_next g w wordF hc (by decide) (by decide)
 clear hc
 go_enter Tryz.func94, Tryz.ntmps94
 go_wp2_with fail
 refine HN.out.mono ?_
 rintro e w1 ⟨k, x, hk, hx, rfl, hcell, hca, hap⟩
 have hl := short (fs := wordF) (n := 7) (by decide) hx
 have hk2 : k < 14 := hk
 have i1 : (k : Int) < 14 := by omega
 have i2 : (0 : Int) ≤ (k : Int) := by omega
 have HC := Lib.hid hca
 have HA := Lib.hid hap
 clear hca hap hx hk HN
 go_wp2_with fail
 go_ret
 exact ⟨x, hl, rfl, HC.out, HA.out⟩
theorem dtime_any (g : Nat) (w : World) (hc : CodesAt w g) : Calls Tryz.prog 68 #[.pointer (some ⟨g, 0, none⟩)] w (IntP 253402300799999 g w) := by
 have HN := Lib.hid (next_any g 4 w hc (by omega) (by omega))
 clear hc
 go_enter Tryz.func68, Tryz.ntmps68
 go_wp2_with (go_at_call 21; refine HN.out.mono ?_)
 rintro e w1 ⟨q, hq, rfl, hca, hap⟩
 have HC := Lib.hid hca
 have HA := Lib.hid hap
 clear hca hap HN
 by_cases q0 : q = 0
 ·subst q0
  go_wp2_with fail
  refine (next_any g 40 w1 HC.out (by omega) (by omega)).mono ?_
  rintro e w2 ⟨m, hm, rfl, hca, hap⟩
  have HC2 := Lib.hid hca
  have HA2 := Lib.hid (HA.out.trans hap)
  clear hca hap
  go_wp2_with fail
  go_ret
  exact ⟨m * 86400000, by omega, by go_num, HC2.out, HA2.out⟩
 by_cases q1 : q = 1
 ·subst q1
  go_wp2_with fail
  refine (next_any g 3 w1 HC.out (by omega) (by omega)).mono ?_
  rintro e w2 ⟨m, hm, rfl, hca, hap⟩
  have HC2 := Lib.hid hca
  have HA2 := Lib.hid (HA.out.trans hap)
  clear hca hap
  go_wp2_with fail
  go_ret
  exact ⟨253402300799999 - m * 86400000, by omega, by go_num, HC2.out, HA2.out⟩
 ·have z0 : ((q : Int) == 0) = false := by rw [beq_eq_false_iff_ne]; omega
  have z1 : ((q : Int) == 1) = false := by rw [beq_eq_false_iff_ne]; omega
  go_wp2_with fail
  refine (next_any g 60 w1 HC.out (by omega) (by omega)).mono ?_
  rintro e w2 ⟨m, hm, rfl, hca, hap⟩
  have HC2 := Lib.hid hca
  have HA2 := Lib.hid (HA.out.trans hap)
  clear hca hap
  go_wp2_with fail
  go_ret
  exact ⟨1000 + m, by omega, by go_num, HC2.out, HA2.out⟩
def WtP (g : Nat) (w : World) (e : Ending) (w' : World) : Prop := ∃ k : Nat, (k = 1 ∨ k = 2 ∨ k = 5 ∨ k = 10 ∨ k = 5040) ∧ e = .returned (.int .i64 k) ∧ CodesAt w' g ∧ Apart g w w'
theorem dweight_any (g : Nat) (w : World) (hc : CodesAt w g) : Calls Tryz.prog 69 #[.pointer (some ⟨g, 0, none⟩)] w (WtP g w) := by
 have hb : Below w.heap.size w (w.alloc (.cells #[.int .i64 1, .int .i64 1, .int .i64 2, .int .i64 5, .int .i64 10, .int .i64 5040] 3)) := (Below.refl _ w).alloc (Nat.le_refl _) _
 have HN := Lib.hid (next_any g 6 _ (hc.below hb) (by omega) (by omega))
 have HB := Lib.hid hb
 have HG := Lib.hid hc.1
 clear hc hb
 go_enter Tryz.func69, Tryz.ntmps69
 go_wp2_with (go_at_call 21; refine HN.out.mono ?_)
 rintro e w1 ⟨k, hk, rfl, hca, hap⟩
 have hcell : ∃ u : Nat, (u = 1 ∨ u = 2 ∨ u = 5 ∨ u = 10 ∨ u = 5040) ∧ w1.cell? ⟨w.heap.size, k, none⟩ = some (.int .i64 u) := by
  rw [hap.cell (p := ⟨w.heap.size, k, none⟩) (by have := HG.out; simp; omega) (by simp)]
  match k, hk with
  | 0, _ => exact ⟨1, by omega, by simp [go_sem]⟩
  | 1, _ => exact ⟨1, by omega, by simp [go_sem]⟩
  | 2, _ => exact ⟨2, by omega, by simp [go_sem]⟩
  | 3, _ => exact ⟨5, by omega, by simp [go_sem]⟩
  | 4, _ => exact ⟨10, by omega, by simp [go_sem]⟩
  | 5, _ => exact ⟨5040, by omega, by simp [go_sem]⟩
 obtain ⟨u, hu, hcell⟩ := hcell
 have i1 : (k : Int) < 6 := by omega
 have i2 : (0 : Int) ≤ (k : Int) := by omega
 have HC := Lib.hid hca
 have HA := Lib.hid ((Apart.of_below HB.out HG.out).trans hap)
 clear hca hap HN
 go_wp2_with fail
 go_ret
 exact ⟨u, hu, rfl, HC.out, HA.out⟩
end Go.Proofs.YtmpbjaodgajnfaaGreatDoor
namespace Go.Proofs.YtmpbjaodgajnfaaGreatDoor
open Go.RowKit
theorem sumL (a b : List UInt8) (h : a.length + b.length ≤ 100000) : ∃ c : List UInt8, (∀ w, (Op.stringOp .add ⟨a.toArray⟩ ⟨b.toArray⟩).run Tryz.prog w = .ok (.string ⟨c.toArray⟩) w) ∧ Hid (c = a ++ b) ∧ c.length ≤ a.length + b.length := by
 refine ⟨a ++ b, fun w => ?_, rfl, by rw [List.length_append]; exact Nat.le_refl _⟩
 exact run_string_add_lists w a b (by omega) (by omega)
structure TX (w : World) (g n : Nat) (x : List UInt8) (W : World) : Prop where
 len : x.length ≤ n
 codes : CodesAt W g
 apart : Apart g w W
def sepO : Obj := .cells #[.string ⟨#[32]⟩, .string ⟨#[32]⟩, .string ⟨#[44, 32]⟩, .string ⟨#[61]⟩, .string ⟨#[]⟩] 9
theorem sep_at (k : Nat) (hk : k < 5) : ∃ x : List UInt8, x.length ≤ 2 ∧ (∀ W : World, (W.alloc sepO).cell? ⟨W.heap.size, k, none⟩ = some (.string ⟨x.toArray⟩)) ∧ (∀ h : k < ([Value.string ⟨#[32]⟩, .string ⟨#[32]⟩, .string ⟨#[44, 32]⟩, .string ⟨#[61]⟩, .string ⟨#[]⟩] : List Value).length, ([Value.string ⟨#[32]⟩, .string ⟨#[32]⟩, .string ⟨#[44, 32]⟩, .string ⟨#[61]⟩, .string ⟨#[]⟩] : List Value)[k]'h = .string ⟨x.toArray⟩) := by
 match k, hk with
 | 0, _ => exact ⟨[32], by decide, fun W => by simp [go_sem, sepO], fun _ => rfl⟩
 | 1, _ => exact ⟨[32], by decide, fun W => by simp [go_sem, sepO], fun _ => rfl⟩
 | 2, _ => exact ⟨[44, 32], by decide, fun W => by simp [go_sem, sepO], fun _ => rfl⟩
 | 3, _ => exact ⟨[61], by decide, fun W => by simp [go_sem, sepO], fun _ => rfl⟩
 | 4, _ => exact ⟨[], by decide, fun W => by simp [go_sem, sepO], fun _ => rfl⟩
theorem CodesAt.al {W : World} {g : Nat} (h : CodesAt W g) (o : Obj) : CodesAt (W.alloc o) g := h.below ((Below.refl _ _).alloc (Nat.le_refl _) o)
theorem CodesAt.dr {W : World} {g : Nat} (h : CodesAt W g) : CodesAt W.drew g := h.below (Below.refl _ _).drew
theorem Apart.al {W0 W : World} {g : Nat} (h : Apart g W0 W) (hg : g < W0.heap.size) (o : Obj) : Apart g W0 (W.alloc o) := h.trans (Apart.of_below ((Below.refl _ _).alloc (Nat.le_refl _) o) (Nat.lt_of_lt_of_le hg h.1.size))
set_option maxRecDepth 100000 in
set_option maxHeartbeats 2000000 in
theorem dtext_any (g : Nat) (w : World) (hc : CodesAt w g) : Calls Tryz.prog 67 #[.pointer (some ⟨g, 0, none⟩)] w (StrP 60 g w) := by
 have HW := Lib.hid (dword_any g w hc)
 have HGW := Lib.hid hc.1
 clear hc
 go_enter Tryz.func67, Tryz.ntmps67
 go_wp2_with (go_at_call 94; refine HW.out.mono ?_)
 rintro e w1 ⟨x, hx, rfl, hca, hap⟩
 have HC := Lib.hid hca
 have HA := Lib.hid hap
 clear hca hap HW
 go_wp2_with fail
 refine (next_any g 4 w1 HC.out (by omega) (by omega)).mono ?_
 rintro e w2 ⟨n, hn, rfl, hca, hap⟩
 have HT := Lib.hid (show TX w g 60 x w2 from ⟨by omega, hca, HA.out.trans hap⟩)
 clear hca hap HC HA
 go_wp2_with fail
 go_loopw [3, 4] (fun s i wr => ∃ (x : List UInt8) (j : Nat), i = .int .i64 j ∧ s = .string ⟨x.toArray⟩ ∧ x.length + 12 * j ≤ 50 ∧ TX w g 60 x wr) (fun _ i _ => (intOf i).toNat)
 case atStart => exact ⟨x, n, rfl, rfl, by omega, HT.out⟩
 case round =>
  obtain ⟨x, j, rfl, rfl, hxl, hT⟩ := hrel
  have HTX := Lib.hid hT
  clear hT HT
  cases j with
  | zero =>
   go_wp2_with fail
   go_ret
   exact ⟨x, HTX.out.len, rfl, HTX.out.codes, HTX.out.apart⟩
  | succ j =>
   have hj0 : (0 : Int) < (j : Int) + 1 := by omega
   have HC0 := Lib.hid (CodesAt.dr HTX.out.codes)
   have HG := Lib.hid HTX.out.codes.1
   have HA0 := Lib.hid (HTX.out.apart.trans (Apart.of_below (Below.refl _ wr).drew HG.out))
   go_wp2_with fail
   go_region_with (first
    | (go_at_call 21; refine (next_any g 5 _ (by first | exact HC0.out | exact HC0.out.al _) (by omega) (by omega)).mono ?_; rintro e w3 ⟨k, hk, rfl, hca, hap⟩; have HCA := Lib.hid hca; have HAP := Lib.hid hap; have i1 : (k : Int) < 5 := (by omega); have i2 : (0 : Int) ≤ (k : Int) := (by omega); obtain ⟨y, hyl, hyw, hyq⟩ := sep_at k hk; have HYW := Lib.hid hyw; (try (have hcell : w3.cell? ⟨wr.heap.size, k, none⟩ = some (.string ⟨y.toArray⟩) := (HAP.out.cell (p := ⟨wr.heap.size, k, none⟩) (Nat.ne_of_gt HG.out) (by simp)).trans (HYW.out wr.drew))); clear hca hap hyw)
    | (go_at_call 94; refine (dword_any g _ (by first | exact HCA.out | exact HCA.out.al _)).mono ?_; rintro e w4 ⟨z, hz, rfl, hca, hap⟩; obtain ⟨A1, r1, e1, l1⟩ := sumL y z (by omega); obtain ⟨A2, r2, e2, l2⟩ := sumL x A1 (by omega); have HCA4 := Lib.hid hca; have HAP4 := Lib.hid hap; (try (have hcell4 : w4.cell? ⟨wr.heap.size, k, none⟩ = some (.string ⟨y.toArray⟩) := (HAP4.out.cell (p := ⟨wr.heap.size, k, none⟩) (Nat.ne_of_gt HG.out) (World.block_lt_of_cell? _ _ hcell)).trans hcell)); (try (have hcell4 : w4.cell? ⟨w3.heap.size, k, none⟩ = some (.string ⟨y.toArray⟩) := (HAP4.out.cell (p := ⟨w3.heap.size, k, none⟩) (Nat.ne_of_gt HCA.out.1) (by simp)).trans (HYW.out w3))); clear hca hap))
   all_goals (go_wp2_with fail)
   all_goals
    refine ⟨⟨A2, j, by go_num, rfl, by omega, ⟨by omega, ?_, ?_⟩⟩, by simp [intOf]⟩
    ·first | exact HCA4.out | exact HCA4.out.al _
    ·first
      | exact ((HA0.out.al HGW.out _).trans HAP.out).trans HAP4.out
      | exact ((HA0.out.trans HAP.out).al HGW.out _).trans HAP4.out
      | exact ((HA0.out.trans HAP.out).trans HAP4.out).al HGW.out _
end Go.Proofs.YtmpbjaodgajnfaaGreatDoor
namespace Go.Proofs.YtmpbjaodgajnfaaGreatDoor
open Go.RowKit
namespace Mt
theorem fstM_cat (p q : List Mk) (b : Bool) (i : Nat) : fstM (p ++ q) b i = (fstM p b i).or (fstM q b i) := by
 unfold fstM
 rw [List.find?_append]
 cases p.find? fun m => decide (m.1 = b ∧ m.2.1 = i) <;> simp
theorem fstM_mem {p : List Mk} {b : Bool} {i x : Nat} (h : fstM p b i = some x) : ∃ m ∈ p, m.2.2 = x := by
 unfold fstM at h
 obtain ⟨m, hm, hx⟩ := Option.map_eq_some_iff.1 h
 exact ⟨m, List.mem_of_find?_eq_some hm, hx⟩
def WbK (a b : Nat) (ms : List Mk) : Prop := a ≤ b ∧ (∀ m ∈ ms, a ≤ m.2.2 ∧ m.2.2 ≤ b) ∧ ∀ i x, fstM ms true i = some x → ∃ y, fstM ms false i = some y ∧ x ≤ y
theorem WbK.nil {a b : Nat} (h : a ≤ b) : WbK a b [] := ⟨h, fun m hm => (by cases hm), fun i x h => (by simp [fstM] at h)⟩
theorem WbK.cat {a b c : Nat} {p q : List Mk} (h : WbK a b p) (k : WbK b c q) : WbK a c (q ++ p) := by
 refine ⟨Nat.le_trans h.1 k.1, fun m hm => ?_, fun i x hx => ?_⟩
 ·rcases List.mem_append.1 hm with hm | hm
  ·exact ⟨Nat.le_trans h.1 (k.2.1 m hm).1, (k.2.1 m hm).2⟩
  ·exact ⟨(h.2.1 m hm).1, Nat.le_trans (h.2.1 m hm).2 k.1⟩
 ·rw [fstM_cat] at hx ⊢
  cases hq : fstM q true i with
  | some x' =>
   rw [hq] at hx
   obtain ⟨y, hy, hxy⟩ := k.2.2 i x' hq
   rw [hy]
   exact ⟨y, rfl, by simpa using (Option.some.inj hx) ▸ hxy⟩
  | none =>
   rw [hq] at hx
   have hx' : fstM p true i = some x := hx
   obtain ⟨m, hm, hmx⟩ := fstM_mem hx'
   cases hf : fstM q false i with
   | some y =>
    obtain ⟨m', hm', hmy⟩ := fstM_mem hf
    exact ⟨y, rfl, by have := (h.2.1 m hm).2; have := (k.2.1 m' hm').1; omega⟩
   | none =>
    obtain ⟨y, hy, hxy⟩ := h.2.2 i x hx'
    exact ⟨y, hy, hxy⟩
theorem WbK.cap {a b : Nat} {p : List Mk} (h : WbK a b p) (c : Nat) : WbK a b ((false, c, b) :: p ++ [(true, c, a)]) := by
 refine ⟨h.1, fun m hm => ?_, fun i x hx => ?_⟩
 ·simp only [List.cons_append, List.mem_cons, List.mem_append, List.not_mem_nil, or_false] at hm
  rcases hm with rfl | hm | rfl
  ·exact ⟨h.1, Nat.le_refl _⟩
  ·exact h.2.1 m hm
  ·exact ⟨Nat.le_refl _, h.1⟩
 ·have e : (false, c, b) :: p ++ [(true, c, a)] = [(false, c, b)] ++ (p ++ [(true, c, a)]) := rfl
  rw [e, fstM_cat, fstM_cat] at hx ⊢
  by_cases hc : c = i
  ·subst hc
   have h1 : fstM [(false, c, b)] true c = none := by simp [fstM]
   have h2 : fstM [(false, c, b)] false c = some b := by simp [fstM]
   have h3 : fstM [(true, c, a)] true c = some a := by simp [fstM]
   rw [h1, h3] at hx
   rw [h2]
   refine ⟨b, rfl, ?_⟩
   cases hp : fstM p true c with
   | some y =>
    rw [hp] at hx
    obtain ⟨m, hm, hmy⟩ := fstM_mem hp
    have := (h.2.1 m hm).2
    have : y = x := by simpa using hx
    omega
   | none =>
    rw [hp] at hx
    have : a = x := by simpa using hx
    have := h.1
    omega
  ·have h1 : ∀ f, fstM [(false, c, b)] f i = none := fun f => by simp [fstM, hc]
   have h2 : ∀ f, fstM [(true, c, a)] f i = none := fun f => by simp [fstM, hc]
   rw [h1, h2] at hx ⊢
   have hx' : fstM p true i = some x := by simpa using hx
   obtain ⟨y, hy, hxy⟩ := h.2.2 i x hx'
   exact ⟨y, by simp [hy], hxy⟩
section
variable (s : List UInt8)
def WbM (a : Nat) (l : List Out) : Prop := ∀ o ∈ l, o.1 ≤ s.length ∧ WbK a o.1 o.2.2
def WbF (D : Nat → Nat → List Out) : Prop := ∀ a e, a ≤ s.length → WbM s a (D a e)
variable {s}
theorem WbM.one {a : Nat} (h : a ≤ s.length) (e : Nat) : WbM s a [(a, e, [])] := fun o ho => by
 rw [List.mem_singleton] at ho
 subst ho
 exact ⟨h, WbK.nil (Nat.le_refl _)⟩
theorem WbM.nil (a : Nat) : WbM s a [] := fun o ho => by cases ho
theorem WbM.app {a : Nat} {l m : List Out} (h : WbM s a l) (k : WbM s a m) : WbM s a (l ++ m) := fun o ho => (List.mem_append.1 ho).elim (h o) (k o)
theorem WbM.filter {a : Nat} {l : List Out} (h : WbM s a l) (p : Out → Bool) : WbM s a (l.filter p) := fun o ho => h o (List.mem_filter.1 ho).1
theorem WbM.seq {a : Nat} {l : List Out} {g : Nat → Nat → List Out} (h : WbM s a l) (k : WbF s g) : WbM s a (seqD l g) := fun o ho => by
 unfold seqD at ho
 rw [List.mem_flatMap] at ho
 obtain ⟨p, hp, ho⟩ := ho
 rw [List.mem_map] at ho
 obtain ⟨q, hq, rfl⟩ := ho
 obtain ⟨h1, h2⟩ := h p hp
 obtain ⟨k1, k2⟩ := k _ _ h1 q hq
 exact ⟨k1, h2.cat k2⟩
section
variable {D : List Nm → Nat → Nat → List Out} {fn : List Nm → List Nm} (h : ∀ ns, WbF s (D ns))
include h
theorem timesD_wb : ∀ n ns, WbF s (timesD D fn n ns)
 | 0, _ => fun _ e ha => WbM.one ha e
 | n + 1, ns => fun a e ha => WbM.seq (h ns a e ha) (timesD_wb n (fn ns))
theorem optsD_wb : ∀ n ns, WbF s (optsD D fn n ns)
 | 0, _ => fun _ e ha => WbM.one ha e
 | n + 1, ns => fun a e ha => WbM.app (WbM.seq (h ns a e ha) (optsD_wb n (fn ns))) (WbM.one ha e)
theorem starD_wb (ns : List Nm) : ∀ m, WbF s (starD D ns m)
 | 0 => fun _ e ha => WbM.one ha e
 | m + 1 => fun a e ha => WbM.app (WbM.seq ((h ns a (e + 1) ha).filter _) (starD_wb ns m)) (WbM.one ha e)
theorem reptD_wb (mn mx : Int) (ns : List Nm) : WbF s (reptD D fn s mn mx ns) := fun a e ha => by
 unfold reptD
 split
 ·exact WbM.seq (timesD_wb h _ ns a e ha) fun a e ha => starD_wb h _ _ a e ha
 ·exact WbM.seq (timesD_wb h _ ns a e ha) (optsD_wb h _ _)
end
end
mutual
theorem denN_wb (s : List UInt8) : ∀ (t : NT) (ns : List Nm), WbF s (denN s t ns)
 | .node op rs nm kids mn mx, ns => fun a e ha => by
  have hH := denH_wb s kids
  rw [denN]
  by_cases h0 : op = 1
  ·rw [if_pos h0]
   by_cases hh : hitB s a rs = true
   ·rw [if_pos hh]
    have hl : a < s.length := by
     unfold hitB at hh
     rcases Nat.lt_or_ge a s.length with h | h
     ·exact h
     ·rw [List.getElem?_eq_none h] at hh; cases hh
    intro o ho
    rw [List.mem_singleton] at ho
    subst ho
    exact ⟨hl, WbK.nil (Nat.le_succ _)⟩
   ·rw [if_neg hh]
    exact WbM.nil _
  rw [if_neg h0]
  by_cases h2 : op = 6
  ·rw [if_pos h2]
   split
   ·exact WbM.one ha e
   ·exact WbM.nil _
  rw [if_neg h2]
  by_cases h3 : op = 7
  ·rw [if_pos h3]
   split
   ·exact WbM.one ha e
   ·exact WbM.nil _
  rw [if_neg h3]
  by_cases h4 : op = 2
  ·rw [if_pos h4]
   exact denL_wb s kids ns a e ha
  rw [if_neg h4]
  by_cases h5 : op = 3
  ·rw [if_pos h5]
   exact denA_wb s kids ns a e ha
  rw [if_neg h5]
  by_cases h6 : op = 5
  ·rw [if_pos h6]
   intro o ho
   rw [List.mem_map] at ho
   obtain ⟨q, hq, rfl⟩ := ho
   obtain ⟨k1, k2⟩ := hH (capL ns nm) a e ha q hq
   exact ⟨k1, k2.cap _⟩
  rw [if_neg h6]
  by_cases h7 : op = 4
  ·rw [if_pos h7]
   split
   ·exact WbM.one ha e
   ·exact reptD_wb hH mn mx ns a e ha
  ·rw [if_neg h7]
   exact WbM.one ha e
theorem denH_wb (s : List UInt8) : ∀ (ks : List NT) (ns : List Nm), WbF s (denH s ks ns)
 | [], ns => fun a e ha => by
  rw [denH]
  exact WbM.one ha e
 | k :: ks, ns => fun a e ha => by
  rw [denH]
  exact denN_wb s k ns a e ha
theorem denL_wb (s : List UInt8) : ∀ (ks : List NT) (ns : List Nm), WbF s (denL s ks ns)
 | [], ns => fun a e ha => by
  rw [denL]
  exact WbM.one ha e
 | k :: ks, ns => fun a e ha => by
  rw [denL]
  exact WbM.seq (denN_wb s k ns a e ha) (denL_wb s ks _)
theorem denA_wb (s : List UInt8) : ∀ (ks : List NT) (ns : List Nm), WbF s (denA s ks ns)
 | [], ns => fun a e ha => by
  rw [denA]
  exact WbM.one ha e
 | [k], ns => fun a e ha => by
  rw [denA]
  exact denN_wb s k ns a e ha
 | k :: k2 :: ks, ns => fun a e ha => by
  have hd : denA s (k :: k2 :: ks) ns a e = denN s k ns a e ++ denA s (k2 :: ks) (nsN k ns) a e := by
   rw [denA]
   intro h
   cases h
  rw [hd]
  exact WbM.app (denN_wb s k ns a e ha) (denA_wb s (k2 :: ks) _ a e ha)
end
theorem fstD_mem {K : Nat → Nat → Res} {x : Nat} {ms : List Mk} : ∀ {l : List Out}, fstD l K = some (x, ms) → ∃ o ∈ l, ∃ r, K o.1 o.2.1 = some r ∧ x = r.1 ∧ ms = r.2 ++ o.2.2
 | [], h => by cases h
 | o :: l, h => by
  rw [fstD] at h
  cases hk : K o.1 o.2.1 with
  | some r =>
   rw [hk] at h
   have := Option.some.inj h
   exact ⟨o, List.mem_cons_self, r, hk, (congrArg (·.1) this).symm, (congrArg (·.2) this).symm⟩
  | none =>
   rw [hk] at h
   obtain ⟨o', ho, h'⟩ := fstD_mem h
   exact ⟨o', List.mem_cons_of_mem _ ho, h'⟩
theorem matR_wb {s : List UInt8} {t : NT} {a xe : Nat} {ms : List Mk} (h : matR s t false a = some (xe, ms)) (ha : a ≤ s.length) : xe ≤ s.length ∧ WbK a xe ms := by
 unfold matR at h
 obtain ⟨o, ho, r, hr, h1, h2⟩ := fstD_mem h
 rw [if_neg (by simp)] at hr
 have := Option.some.inj hr
 subst this
 simp only [List.nil_append] at h1 h2
 subst h1 h2
 exact denN_wb s t [] a 0 ha o ho
end Mt
theorem swo_G : Sort.SWO (ltOf cmpG) where
 irrefl x := by unfold ltOf cmpG Lib.compareInt; simp
 trans x y z := by
  unfold ltOf cmpG Lib.compareInt
  simp
  omega
 ntrans x y z := by
  unfold ltOf cmpG Lib.compareInt
  simp
  omega
theorem srtG_perm (gs : List Grp) : (srtG gs).Perm gs := by
 have h := (Sort.insertionSort_holds swo_G gs.toArray 0 gs.toArray.size (Nat.zero_le _) (Nat.le_refl _)).1
 have h3 := h.2.2
 unfold srtG sortG
 have h1 := h.1
 rw [Array.extract_eq_self_of_le (by omega), Array.extract_eq_self_of_le (by omega)] at h3
 simpa using h3
theorem grpK_mem {ms : List Mt.Mk} {ns : List Mt.Nm} {g : Grp} : ∀ {k : Nat}, g ∈ grpK ms ns k → ∃ i x y, i < k ∧ Mt.fstM ms true i = some x ∧ Mt.fstM ms false i = some y ∧ g = (ns.getD i [], (x : Int), (y : Int))
 | 0, h => by cases h
 | k + 1, h => by
  rw [grpK, List.mem_append] at h
  rcases h with h | h
  ·obtain ⟨i, x, y, hi, h1⟩ := grpK_mem h
   exact ⟨i, x, y, by omega, h1⟩
  ·split at h
   ·rename_i hs
    rw [Bool.and_eq_true] at hs
    obtain ⟨x, hx⟩ := Option.isSome_iff_exists.1 hs.1
    obtain ⟨y, hy⟩ := Option.isSome_iff_exists.1 hs.2
    rw [List.mem_singleton] at h
    refine ⟨k, x, y, by omega, hx, hy, ?_⟩
    rw [h]
    unfold posM
    rw [hx, hy]
   ·cases h
theorem grp_ok {t : NT} {s : List UInt8} {a xe : Nat} {ms : List Mt.Mk} (h : FstM t s a xe ms) : ∀ g ∈ mgrp t ms, GrpOk s.length g := by
 intro g hg
 unfold mgrp at hg
 obtain ⟨i, x, y, _, hx, hy, rfl⟩ := grpK_mem ((srtG_perm _).mem_iff.1 hg)
 obtain ⟨h1, _, h2, h3⟩ := Mt.matR_wb h.2.2 h.1
 obtain ⟨y', hy', hxy⟩ := h3 i x hx
 rw [hy] at hy'
 have := Option.some.inj hy'
 obtain ⟨m, hm, hmy⟩ := Mt.fstM_mem hy
 have := (h2 m hm).2
 exact ⟨x, y, rfl, rfl, by omega, by omega⟩
end Go.Proofs.YtmpbjaodgajnfaaGreatDoor

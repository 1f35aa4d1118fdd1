/-
 Joined: Kit, MtI, MtCo, MtDa, MtDb, MtDc, MtDd.
-/
import Derived.Test.YtihdnlpelfgklaaDoorMcM
import Derived.WalkKit
import Derived.WalkSpells
import Derived.WalkLawsBesides
import Derived.Deep.QuietTactic
import Derived.BigQuiet
import Derived.Lib.Hide
namespace Go.Proofs.YtihdnlpelfgklaaDoor
open Go.RowKit
theorem ba_app (a b : List UInt8) : (ByteArray.mk a.toArray) ++ (ByteArray.mk b.toArray) = ByteArray.mk (a ++ b).toArray := by
 apply ByteArray.ext
 simp [ByteArray.data_append]
end Go.Proofs.YtihdnlpelfgklaaDoor
namespace Go.Proofs.YtihdnlpelfgklaaDoor.Mt
def clsB (b : UInt8) : NT := .node 1 [(b, b)] [] [] 0 0
theorem hit_byte (s : List UInt8) (a : Nat) (b : UInt8) : hitB s a [(b, b)] = true ↔ s[a]? = some b := by
 unfold hitB hasR
 cases h : s[a]? with
 | none => simp
 | some c =>
  simp only [List.any_cons, List.any_nil, Bool.or_false, Bool.and_eq_true, decide_eq_true_iff, Option.some.injEq]
  constructor
  ·rintro ⟨h1, h2⟩
   exact UInt8.le_antisymm h2 h1
  ·rintro rfl
   exact ⟨UInt8.le_refl _, UInt8.le_refl _⟩
theorem lit_den (s : List UInt8) : ∀ (bs : List UInt8) (ns : List Nm) (a e : Nat), denL s (bs.map clsB) ns a e = if bs <+: s.drop a then [(a + bs.length, if bs = [] then e else 0, [])] else []
 | [], ns, a, e => by
  rw [List.map_nil, denL, if_pos List.nil_prefix, if_pos rfl]
  rfl
 | b :: bs, ns, a, e => by
  rw [List.map_cons, denL]
  have hc : denN s (clsB b) ns a e = if s[a]? = some b then [(a + 1, 0, [])] else [] := by
   unfold clsB
   rw [denN, if_pos rfl]
   by_cases h : s[a]? = some b
   ·rw [if_pos h, if_pos ((hit_byte s a b).2 h)]
   ·rw [if_neg h, if_neg (fun k => h ((hit_byte s a b).1 k))]
  rw [hc]
  by_cases h : s[a]? = some b
  ·rw [if_pos h]
   obtain ⟨hl, hb⟩ := List.getElem?_eq_some_iff.1 h
   have hs : seqD [(a + 1, 0, [])] (denL s (bs.map clsB) (nsN (clsB b) ns)) = denL s (bs.map clsB) (nsN (clsB b) ns) (a + 1) 0 := by
    unfold seqD
    simp
   have hd : s.drop a = b :: s.drop (a + 1) := by rw [List.drop_eq_getElem_cons hl, hb]
   have h0 : (if bs = [] then 0 else 0) = 0 := by split <;> rfl
   rw [hs, lit_den s bs, hd, h0]
   by_cases hp : bs <+: s.drop (a + 1)
   ·rw [if_pos hp, if_pos (List.cons_prefix_cons.2 ⟨rfl, hp⟩), if_neg (by simp), List.length_cons, show a + 1 + bs.length = a + (bs.length + 1) by omega]
   ·rw [if_neg hp, if_neg (fun h => hp (List.cons_prefix_cons.1 h).2)]
  ·rw [if_neg h, if_neg]
   ·rfl
   ·intro hp
    apply h
    obtain ⟨r, hr⟩ := hp
    have := congrArg (·[0]?) hr
    simp only [List.cons_append, List.getElem?_cons_zero, List.getElem?_drop, Nat.add_zero] at this
    exact this.symm
end Go.Proofs.YtihdnlpelfgklaaDoor.Mt
namespace Go.Proofs.YtihdnlpelfgklaaDoor
open Go.RowKit
theorem MaB.on {t : NT} {en : Bool} {s : List UInt8} {F : Nat → Prop} {g fa : Nat} {w w' : World} (h : MaB t en s F g fa w) (hb : Below w.heap.size w w') : MaB t en s F g fa w' := h.go (GoF.below hb).same (h.ft.keep (fun b hl => hb.block b hl) (fun b hF => ⟨Nat.lt_of_lt_of_le (h.ft.bnd b hF) hb.size, fun _ => hF⟩))
set_option maxHeartbeats 4000000 in
set_option maxRecDepth 1000000 in
theorem find_any (t : NT) (s : List UInt8) (g fa : Nat) (hck : ckE t = 0) (hco : Mt.costN t ≤ 4000) (hs : s.length ≤ 20000) (at_ : Nat) (ha : at_ ≤ s.length) (hno : ∀ a, a < at_ → Mt.matR s t false a = none) (hyes : (Mt.matR s t false at_).isSome = true) (F : Nat → Prop) (w : World) (h : MaB t false s F g fa w) :
  Calls Tryd.prog 25 #[.pointer (some ⟨g, 0, none⟩), .int .i64 0] w (MatP t false s F g fa at_ w) := by
 have HNO := Lib.hid hno
 obtain ⟨⟨xe, ms⟩, hx⟩ := Option.isSome_iff_exists.1 hyes
 have HX := Lib.hid hx
 obtain ⟨m, hm⟩ : ∃ m, Mt.cntM (Mt.nsN t []).length ms = m := ⟨_, rfl⟩
 have HMM := Lib.hid hm
 obtain ⟨Wa, hWa⟩ : ∃ Wa, w.alloc (.cells #[.int .i64 0, .int .i64 0, .slice none 0 0] 39) = Wa := ⟨_, rfl⟩
 have hba : Below w.heap.size w Wa := by rw [← hWa]; exact (Below.refl _ _).alloc (Nat.le_refl _) _
 have hbx : Wa.heap[w.heap.size]? = some (.cells #[.int .i64 0, .int .i64 0, .slice none 0 0] 39 (0, 0)) := by rw [← hWa]; exact Deep.blk_alloc_new w _
 have ha1 := h.below hba
 have HFb : Hid (Fg F w Wa w.heap.size) := Lib.hid (.inr ⟨Nat.le_refl _, heap_lt hbx⟩)
 have HG1 : Hid (GoF F (Fg F w Wa) w Wa) := Lib.hid (GoF.below hba)
 have HM := Lib.hid (fun (F' : Nat → Prop) (a : Nat) (ha : a ≤ s.length) (W : World) (hW : MaB t false s F' g fa W) => match_any t false s g fa hck hco hs a ha F' W hW)
 have HBX := Lib.hid hbx
 have HA1 := Lib.hid ha1
 have HH := Lib.hid h
 clear h hba hbx ha1 hno hyes hck hco
 generalize Fg F w Wa = F1 at HFb HG1 HA1
 unfold MatP
 rw [hx]
 simp only [hm]
 clear hx hm
 go_enter Tryd.func25, Tryd.ntmps25
 go_wp2_with fail
 go_loopw [6] (fun i wr => ∃ (k : Nat), i = .int .i64 (k : Int) ∧ k ≤ at_ ∧ Hid (MaB t false s F1 g fa wr) ∧ Hid (GoF F1 F1 Wa wr)) (fun i _ => at_ + 1 - (intOf i).toNat)
 case atStart => exact ⟨0, rfl, Nat.zero_le _, HA1, Lib.hid (GoF.refl _ _)⟩
 case round =>
  obtain ⟨k, rfl, hk, HMk, HGk⟩ := hrel
  have hsl : wr.cell? ⟨g, 3, none⟩ = some (.string ⟨s.toArray⟩) := HMk.out.mb.mstr
  have i1 : (k : Int) ≤ (s.length : Int) := by omega
  have HC := Lib.hid (HM.out F1 k (by omega) wr HMk.out)
  by_cases hke : k = at_
  ·subst hke
   go_wp2_with fail
   refine HC.out.mono ?_
   rintro e w3 ⟨⟨hg3, hm3⟩, he⟩
   rw [HX.out] at he
   obtain ⟨a, c, rfl⟩ := he
   simp only [HMM.out]
   have HX3 := Lib.hid (hg3.blk HFb.out (HGk.out.blk HFb.out HBX.out))
   have hf3 := hm3.ft
   have HFIN := Lib.hid (fun (W : World) (hW : SrtP w.heap.size w3 W) => HH.out.fin (HG1.out.trans (HGk.out.trans hg3)) hf3 HFb.out hW)
   obtain ⟨W4, hW4⟩ : ∃ W4, w3.alloc (.cells #[.int .i64 (k : Int), .int .i64 (xe : Int), .slice a m c] 39) = W4 := ⟨_, rfl⟩
   have hb4 : Below w3.heap.size w3 W4 := by rw [← hW4]; exact (Below.refl _ _).alloc (Nat.le_refl _) _
   have hx4 : W4.heap[w3.heap.size]? = some (.cells #[.int .i64 (k : Int), .int .i64 (xe : Int), .slice a m c] 39 (0, 0)) := by rw [← hW4]; exact Deep.blk_alloc_new _ _
   have k0 : W4.cell? ⟨w3.heap.size, 0, none⟩ = some (.int .i64 (k : Int)) := by rw [Lib.cell_of_heap hx4]; rfl
   have k1 : W4.cell? ⟨w3.heap.size, 1, none⟩ = some (.int .i64 (xe : Int)) := by rw [Lib.cell_of_heap hx4]; rfl
   have k2 : W4.cell? ⟨w3.heap.size, 2, none⟩ = some (.slice a m c) := by rw [Lib.cell_of_heap hx4]; rfl
   have hr4 := (hb4.block _ (heap_lt HX3.out)).trans HX3.out
   have d0 : W4.cell? ⟨w.heap.size, 0, none⟩ = some (.int .i64 0) := by rw [Lib.cell_of_heap hr4]; rfl
   have d1 : W4.cell? ⟨w.heap.size, 1, none⟩ = some (.int .i64 0) := by rw [Lib.cell_of_heap hr4]; rfl
   have d2 : W4.cell? ⟨w.heap.size, 2, none⟩ = some (.slice none 0 0) := by rw [Lib.cell_of_heap hr4]; rfl
   have z0 := frz0 hr4 0
   have z1 := frz0 hr4 1
   have z2 := frz0 hr4 2
   have HR4 := Lib.hid hr4
   have HB4 := Lib.hid hb4
   clear hb4 hx4 hr4 hg3 hm3 hf3
   go_wp2_with fail
   refine agg_ret2 (cs := [.int .i64 (k : Int), .int .i64 (xe : Int), .slice a m c]) (by rfl) rfl (by rfl) (set_at (set_at (set_at HR4.out 0 _) 1 _) 2 _) Tryd.underlying39 rfl (by kernel_rfl) ?_
   exact ⟨HFIN.out _ ((SrtP.of_below HB4.out).trans (((SrtP.set _ _ _ _).trans (SrtP.set _ _ _ _)).trans (SrtP.set _ _ _ _))), a, c, rfl⟩
  ·have hnn := HNO.out k (by omega)
   go_wp2_with fail
   refine HC.out.mono ?_
   rintro e w3 ⟨⟨hg3, hm3⟩, he⟩
   rw [hnn] at he
   subst he
   have hb4 : Below w3.heap.size w3 (w3.alloc (.cells #[.int .i64 0, .int .i64 0, .slice none 0 0] 39)) := (Below.refl _ _).alloc (Nat.le_refl _) _
   have HM4 := Lib.hid (hm3.on hb4)
   have HG4 : Hid (GoF F1 F1 Wa (w3.alloc (.cells #[.int .i64 0, .int .i64 0, .slice none 0 0] 39))) := Lib.hid ((HGk.out.trans hg3).trans (GoF.below hb4).same)
   clear hb4 hg3 hm3 hnn
   go_wp2_with fail
   go_roundw
   case rel => exact ⟨k + 1, by go_num, by omega, HM4, HG4⟩
   case measure => simp [intOf]; omega
set_option maxHeartbeats 4000000 in
set_option maxRecDepth 1000000 in
theorem Find_any (t : NT) (v : Value) (s : List UInt8) (at_ : Nat) (w : World) (h : NAt w t v) (hk : Kinds w) (hs : s.length ≤ 20000) (hck : ckE t = 0) (hco : Mt.costN t ≤ 4000) (ha : at_ ≤ s.length) (hno : ∀ a, a < at_ → Mt.matR s t false a = none) (hyes : (Mt.matR s t false at_).isSome = true) :
  Calls Tryd.prog 15 #[v, .string ⟨s.toArray⟩, .int .i64 0] w (MtW t s false at_ w) := by
 have hN := h
 obtain ⟨op, rs, nm, kids, mn, mx, ra, rc, a, c, e0, rfl, _⟩ := h.open
 clear e0
 obtain ⟨nk, hnk⟩ : ∃ n, kids.length = n := ⟨_, rfl⟩
 obtain ⟨nr, hnr⟩ : ∃ n, rs.length = n := ⟨_, rfl⟩
 rw [hnk, hnr] at hN ⊢
 obtain ⟨Wa, hWa⟩ : ∃ Wa, w.alloc (.cells #[.int .i64 op, .slice ra nr rc, .string ⟨nm.toArray⟩, .slice a nk c, .int .i64 mn, .int .i64 mx] 29) = Wa := ⟨_, rfl⟩
 have hb : Below w.heap.size w Wa := by rw [← hWa]; exact (Below.refl _ _).alloc (Nat.le_refl _) _
 have hsz : Wa.heap.size = w.heap.size + 1 := by rw [← hWa]; exact Deep.nblk_alloc _ _
 have hbx : Wa.heap[w.heap.size]? = some (.cells #[.int .i64 op, .slice ra nr rc, .string ⟨nm.toArray⟩, .slice a nk c, .int .i64 mn, .int .i64 mx] 29 (0, 0)) := by rw [← hWa]; exact Deep.blk_alloc_new w _
 obtain ⟨Wm, hWm⟩ : ∃ Wm, Wa.alloc (.cells #[.int .i64 0, .int .i64 0, .slice none 0 0] 39) = Wm := ⟨_, rfl⟩
 have hbm : Below w.heap.size w Wm := by rw [← hWm]; exact hb.alloc hb.size _
 have hmx : Wm.heap[w.heap.size + 1]? = some (.cells #[.int .i64 0, .int .i64 0, .slice none 0 0] 39 (0, 0)) := by rw [← hWm, ← hsz]; exact Deep.blk_alloc_new Wa _
 have hnx : Wm.heap[w.heap.size]? = some (.cells #[.int .i64 op, .slice ra nr rc, .string ⟨nm.toArray⟩, .slice a nk c, .int .i64 mn, .int .i64 mx] 29 (0, 0)) := by rw [← hWm]; exact (Deep.blk_alloc_lt _ _ _ (by omega)).trans hbx
 have HC := Lib.hid (compile_any t _ s false Wm (NAt.later hbm _ _ hN) (hk.below hbm) hs hck hco)
 have HB := Lib.hid hbm
 have HMX := Lib.hid hmx
 obtain ⟨b0, b1, b2, b3, b4, b5⟩ := box6 hnx
 have z2 : decide ((s.length : Int) < 0) = false := decide_eq_false (by omega)
 have HCK := Lib.hid hck
 have HCO := Lib.hid hco
 clear hk hb hbx hN h hnk hnr hbm hmx hnx hck hco
 go_enter Tryd.func15, Tryd.ntmps15
 go_wp2_with fail
 refine HC.out.mono ?_
 rintro e w2 ⟨g, fa, rfl, hb2, hg, hf, hm⟩
 have HM := Lib.hid hm
 have HB2 := Lib.hid hb2
 have HGF := Lib.hid (And.intro hg hf)
 clear hb2 hg hf hm
 go_wp2_with fail
 refine (find_any t s g fa HCK.out HCO.out hs at_ ha hno hyes _ w2 HM.out).mono ?_
 rintro e w3 ⟨⟨hg3, hm3⟩, he⟩
 have HB3 : Hid (Below Wm.heap.size Wm w3) := Lib.hid (HB2.out.trans (hg3.low (CompP.low HB2.out HGF.out.2) HB2.out.size))
 obtain ⟨r, hr⟩ : ∃ r, Mt.matR s t false at_ = r := ⟨_, rfl⟩
 have HV : Hid (∃ v, e = .returned v ∧ MtV at_ (Mt.nsN t []).length (Mt.matR s t false at_) v) := Lib.hid (by
  rw [hr] at he ⊢
  cases r with
  | none => exact ⟨_, he, rfl⟩
  | some x =>
   obtain ⟨a, c, he⟩ := he
   exact ⟨_, he, a, c, rfl⟩)
 obtain ⟨v, rfl, hv⟩ := HV.out
 have hv2 := hv
 obtain ⟨p1, p2, a1, m1, c1, ok, rfl⟩ := hv.two
 have HVV := Lib.hid hv2
 have hx3 := (HB3.out.block _ (heap_lt HMX.out)).trans HMX.out
 have d0 : w3.cell? ⟨w.heap.size + 1, 0, none⟩ = some (.int .i64 0) := by rw [Lib.cell_of_heap hx3]; rfl
 have d1 : w3.cell? ⟨w.heap.size + 1, 1, none⟩ = some (.int .i64 0) := by rw [Lib.cell_of_heap hx3]; rfl
 have d2 : w3.cell? ⟨w.heap.size + 1, 2, none⟩ = some (.slice none 0 0) := by rw [Lib.cell_of_heap hx3]; rfl
 have f0 := frz0 hx3 0
 have f1 := frz0 hx3 1
 have f2 := frz0 hx3 2
 have HX3 := Lib.hid hx3
 clear hg3 hm3 he HV hr hv hv2 hx3
 go_wp2_with fail
 refine agg_ret2 (cs := [.int .i64 p1, .int .i64 p2, .slice a1 m1 c1]) (by rfl) rfl (by rfl) (set_at (set_at (set_at HX3.out 0 _) 1 _) 2 _) Tryd.underlying39 rfl (by kernel_rfl) ?_
 have hb4 : Below w.heap.size w w3 := HB.out.trans (HB3.out.mono HB.out.size)
 exact ⟨_, rfl, HVV.out, ((hb4.setCell (p := ⟨w.heap.size + 1, 0, none⟩) (Nat.le_succ _) _).setCell (p := ⟨w.heap.size + 1, 1, none⟩) (Nat.le_succ _) _).setCell (p := ⟨w.heap.size + 1, 2, none⟩) (Nat.le_succ _) _⟩
end Go.Proofs.YtihdnlpelfgklaaDoor
namespace Go.Proofs.YtihdnlpelfgklaaDoor
open Go.RowKit
def litT (bs : List UInt8) : NT := .node 2 [] [] (bs.map Mt.clsB) 0 0
theorem lits_ck : ∀ (bs : List UInt8) (d c : Nat) (ns : List (List UInt8)), d ≤ 20 → c + bs.length ≤ 400 → ckNs (bs.map Mt.clsB) d c ns = (c + bs.length, ns, 0)
 | [], d, c, ns, _, _ => by rw [List.map_nil, ckNs]; rfl
 | b :: bs, d, c, ns, hd, hc => by
  rw [List.length_cons] at hc
  have hk : ckN (Mt.clsB b) d c ns = (c + 1, ns, 0) := by
   unfold Mt.clsB
   rw [ckN, if_neg (by omega), if_neg (by omega)]
   have hs : shE 1 [(b, b)] [] ([] : List NT).length 0 0 = 0 := by simp [shE, shpB, srt_by1]
   rw [if_neg (by simpa using hs), if_neg (by decide), ckNs]
  rw [List.map_cons, ckNs, hk]
  simp only [ne_eq, not_true, if_false]
  rw [lits_ck bs d (c + 1) ns hd (by omega), List.length_cons]
  congr 1
  omega
theorem lit_ck {bs : List UInt8} (h2 : 2 ≤ bs.length) (h7 : bs.length ≤ 100) : ckE (litT bs) = 0 := by
 have hck : ckN (litT bs) 0 0 [] = (1 + bs.length, [], 0) := by
  unfold litT
  rw [ckN, if_neg (by omega), if_neg (by omega)]
  have hs : shE 2 [] [] (bs.map Mt.clsB).length 0 0 = 0 := by simp [shE, shpB, h2]
  rw [if_neg (by simpa using hs), if_neg (by decide), lits_ck _ _ _ _ (by omega) (by omega)]
 exact (ckE_of hck).2.2.2 rfl (by
  rintro ⟨i, hi, hm⟩
  simp at hi) (by simp)
theorem lits_cost : ∀ bs : List UInt8, Mt.costL (bs.map Mt.clsB) = bs.length
 | [] => by rw [List.map_nil, Mt.costL]; rfl
 | b :: bs => by
  rw [List.map_cons, Mt.costL, lits_cost bs, List.length_cons]
  unfold Mt.clsB
  rw [Mt.costN]
  simp
  omega
theorem lit_cost {bs : List UInt8} (h : bs.length ≤ 100) : Mt.costN (litT bs) ≤ 4000 := by
 unfold litT
 rw [Mt.costN, lits_cost]
 simp
 omega
theorem lit_den (s bs : List UInt8) (a : Nat) : Mt.denN s (litT bs) [] a 0 = if bs <+: s.drop a then [(a + bs.length, if bs = [] then 0 else 0, [])] else [] := by
 unfold litT
 rw [Mt.denN]
 simp only [show ¬ (2 : Int) = 1 by decide, show ¬ (2 : Int) = 6 by decide, show ¬ (2 : Int) = 7 by decide, if_false, if_true]
 exact Mt.lit_den s bs [] a 0
theorem lit_yes {s bs : List UInt8} {a : Nat} (h : bs <+: s.drop a) : Mt.matR s (litT bs) false a = some (a + bs.length, []) := by
 rw [Mt.matR_head, lit_den, if_pos h]
 rfl
theorem lit_no {s bs : List UInt8} {a : Nat} (h : ¬ bs <+: s.drop a) : Mt.matR s (litT bs) false a = none := by
 rw [Mt.matR_head, lit_den, if_neg h]
 rfl
theorem lit_full (s bs : List UInt8) : (Mt.matR s (litT bs) true 0).isSome = decide (s = bs) := by
 unfold Mt.matR
 rw [lit_den, List.drop_zero]
 by_cases h : bs <+: s
 ·rw [if_pos h]
  obtain ⟨r, rfl⟩ := h
  rw [Mt.fstD]
  by_cases hr : r = []
  ·subst hr
   simp
  ·have : ¬ (0 + bs.length = (bs ++ r).length) := by
    rw [List.length_append]
    have := List.length_pos_iff.2 hr
    omega
   rw [if_pos ⟨rfl, this⟩]
   simp [Mt.fstD, hr]
 ·rw [if_neg h]
  have : s ≠ bs := by rintro rfl; exact h (List.prefix_refl _)
  simp [Mt.fstD, this]
theorem pad_take (p : Nat) (hp : p < 10) : (ByteArray.mk #[122, 122, 122, 122, 122, 122, 122, 122, 122, 122]).extract 0 p = ⟨(List.replicate p (122 : UInt8)).toArray⟩ := by
 have : ∀ p : Fin 10, (ByteArray.mk #[122, 122, 122, 122, 122, 122, 122, 122, 122, 122]).extract 0 p.val = ⟨(List.replicate p.val (122 : UInt8)).toArray⟩ := by decide
 exact this ⟨p, hp⟩
theorem lit_pre {bs : List UInt8} {p q : Nat} : bs <+: (List.replicate p (122 : UInt8) ++ bs ++ List.replicate q 122).drop p := by
 rw [List.append_assoc, List.drop_append_of_le_length (by simp), List.drop_of_length_le (by simp), List.nil_append]
 exact List.prefix_append _ _
theorem lit_npre {bs : List UInt8} {p q a : Nat} (h : ∀ x ∈ bs, 97 ≤ x.toNat ∧ x.toNat ≤ 100) (h0 : 0 < bs.length) (ha : a < p) : ¬ bs <+: (List.replicate p (122 : UInt8) ++ bs ++ List.replicate q 122).drop a := by
 intro hp
 obtain ⟨r, hr⟩ := hp
 match bs, h0, h, hr with
 | b :: bs, _, h, hr =>
  have h1 := congrArg List.head? hr
  rw [List.cons_append, List.head?_cons, List.head?_drop, List.append_assoc, List.getElem?_append_left (by simpa using ha), List.getElem?_replicate, if_pos ha] at h1
  injection h1 with h1
  have := h b (by simp)
  rw [h1] at this
  have e : (122 : UInt8).toNat = 122 := rfl
  omega
def litU (r : Nat) : List Value := [.int .i64 1, .slice (some ⟨r, 0, none⟩) 1 1, .string ⟨#[]⟩, .slice none 0 0, .int .i64 0, .int .i64 0]
def LitR (B : Nat) (w : World) (b : UInt8) (us : List Value) : Prop := ∃ r, us = litU r ∧ B ≤ r ∧ w.heap[r]? = some (.cells #[.int .u8 (b.toNat : Int), .int .u8 (b.toNat : Int)] 47 (0, 0))
theorem nat_lits {w : World} {B : Nat} {bs : List UInt8} {kv : Value} (h : OR B 29 6 (LitR B w) w bs kv) : NAt w (litT bs) (.agg #[.int .i64 2, .slice none 0 0, .string ⟨#[]⟩, kv, .int .i64 0, .int .i64 0]) := by
 obtain ⟨a, c, rfl, hm, hk⟩ := h.rw (F := fun _ => True) (fun _ _ => trivial)
 unfold litT
 rw [NAt]
 refine ⟨none, 0, a, c, by rw [List.length_map]; rfl, ⟨rg_nil w, by rw [List.length_map]; omega, by simp⟩, fun h0 => ?_⟩
 rw [List.length_map] at h0
 obtain ⟨blk, off, rfl, hl, _, hc⟩ := hk h0
 refine ⟨blk, off, rfl, hl, fun i hi => ?_⟩
 have hi' : i < bs.length := by simpa using hi
 obtain ⟨us, hu, hcell, r, rfl, _, hr⟩ := hc i hi'
 refine ⟨_, _, _, _, _, _, hcell 0 (by decide), hcell 1 (by decide), hcell 2 (by decide), hcell 3 (by decide), hcell 4 (by decide), hcell 5 (by decide), ?_⟩
 rw [List.getElem_map]
 unfold Mt.clsB
 rw [NAt]
 refine ⟨some ⟨r, 0, none⟩, 1, none, 0, rfl, ⟨⟨_, _, rfl, by simp, fun j hj => ?_⟩, by simp, by simp⟩, fun h => by simp at h⟩
 obtain rfl : j = 0 := by simpa using hj
 exact ⟨r, 0, rfl, heap_lt hr, by rw [Lib.cell_of_heap hr]; rfl, by rw [Lib.cell_of_heap hr]; rfl⟩
end Go.Proofs.YtihdnlpelfgklaaDoor
namespace Go.Proofs.YtihdnlpelfgklaaDoor
open Go.RowKit
theorem conv1 (W : World) (q : Nat) (x : UInt8) (h : W.heap[q]? = some (.cells #[.int .u8 (x.toNat : Int)] 5 (0, 0))) : (convert 22 9 (.slice (some ⟨q, 0, none⟩) 1 1)).run Tryd.prog W = .ok (.string ⟨#[x]⟩) W :=
 run_convert_bytes_back (P := Tryd.prog) W 22 9 5 ⟨q, 0, none⟩ 1 [x] Tryd.underlying22 Tryd.underlying5 Tryd.underlying9 (fun j hj => by
  rw [addp, Nat.zero_add, Lib.cell_of_heap h]
  match j, hj with
  | 0, _ => rfl)
theorem LitR.go {B : Nat} {w w' : World} (hs : ∀ r x, B ≤ r → w.heap[r]? = some (.cells x 47 (0, 0)) → w'.heap[r]? = w.heap[r]?) (b : UInt8) (us : List Value) (h : LitR B w b us) : LitR B w' b us := by
 obtain ⟨r, e, hB, hr⟩ := h
 exact ⟨r, e, hB, (hs r _ hB hr).trans hr⟩
theorem own_type {W : World} {B : Nat} {e e' : TypeId} {k n : Nat} {v : Value} {xs : List Value} (h : W.ownsRow B e k v n xs) {r : Nat} {c : Array Value} {f : Nat × Nat} (hr : W.heap[r]? = some (.cells c e' f)) (hne : e' ≠ e) : v.ownBlock ≠ some r := by
 obtain ⟨_, ⟨rfl, _⟩ | ⟨q, cap, cur, rfl, _, hg, _⟩⟩ := h
 ·intro e; cases e
 ·intro e1
  cases e1
  rw [hg] at hr
  injection hr with hr
  injection hr with h1 h2 h3
  exact hne h2.symm
set_option maxHeartbeats 16000000 in
set_option maxRecDepth 1000000 in
theorem literals_any (cs : List UInt8) (vc : Value) (be af : Nat) (hb8 : be < 256) (ha8 : af < 256) (w : World) (hc : BS w vc cs) (hk : Kinds w) :
  Calls Tryd.prog 5 #[vc, .int .u8 (be : Int), .int .u8 (af : Int)] w fun e w' => e = .returned (.bool true) ∧ Below w.heap.size w w' := by
 have HAW := Lib.hid (maw_any w hk)
 have HBS := Lib.hid hc
 have HK := Lib.hid hk
 clear hc hk
 go_enter Tryd.func5, Tryd.ntmps5
 go_wp2_with fail
 refine HAW.out.mono ?_
 rintro e w1 ⟨rfl, hb1⟩
 have HB1 := Lib.hid hb1
 have HNW := Lib.hid (new_any vc cs 60 w1 (HBS.out.below hb1) (by decide))
 clear hb1
 go_wp2_with fail
 refine HNW.out.mono ?_
 rintro e w2 ⟨rfl, hc2, hb2⟩
 have HB2 : Hid (Below w.heap.size w w2) := Lib.hid (HB1.out.trans (hb2.mono HB1.out.size))
 have hg2 : w1.heap.size < w2.heap.size := hc2.1
 have hwg : w.heap.size ≤ w1.heap.size := HB1.out.size
 have HC2 := Lib.hid hc2
 clear hb2 hc2
 go_wp2_with fail
 obtain ⟨W3, hW3⟩ : ∃ W3, w2.alloc (.cells #[.int .i64 2, .slice none 0 0, .string ⟨#[]⟩, .slice none 0 0, .int .i64 0, .int .i64 0] 29) = W3 := ⟨_, rfl⟩
 rw [hW3]
 have s3 : W3.heap.size = w2.heap.size + 1 := by rw [← hW3]; exact Deep.nblk_alloc _ _
 have x3 : W3.heap[w2.heap.size]? = some (.cells #[.int .i64 2, .slice none 0 0, .string ⟨#[]⟩, .slice none 0 0, .int .i64 0, .int .i64 0] 29 (0, 0)) := by rw [← hW3]; exact Deep.blk_alloc_new _ _
 have b3 : Below w2.heap.size w2 W3 := by rw [← hW3]; exact (Below.refl _ _).alloc (Nat.le_refl _) _
 have HC3 := HC2.out.below b3
 refine (next_any w1.heap.size 6 W3 HC3 (by omega) (by omega)).mono ?_
 rintro e w4 ⟨n0, hn0, rfl, hc4, ha4⟩
 have X4 := Lib.hid ((ha4.block (k := w2.heap.size) (by omega) (by omega)).trans x3)
 have HC4 := Lib.hid hc4
 have HB4 : Hid (Below w.heap.size w w4) := Lib.hid ((HB2.out.trans (b3.mono (by omega))).trans (ha4.1.mono hwg))
 have HS4 : Hid (w2.heap.size + 1 ≤ w4.heap.size) := Lib.hid (by have := ha4.1.size; omega)
 clear s3 x3 b3 HC3 hc4 ha4 hW3
 go_wp2_with fail
 go_loopw [9, 10] (fun sv i wr => ∃ (bs : List UInt8) (k : Nat) (kv : Value), sv = .string ⟨bs.toArray⟩ ∧ i = .int .i64 (k : Int) ∧ k + bs.length = 2 + n0 ∧ Hid (∀ x ∈ bs, 97 ≤ x.toNat ∧ x.toNat ≤ 100) ∧ Hid (CodesAt wr w1.heap.size) ∧ Hid (Below w.heap.size w wr) ∧ Hid (w2.heap.size + 1 ≤ wr.heap.size) ∧ Hid (wr.heap[w2.heap.size]? = some (.cells #[.int .i64 2, .slice none 0 0, .string ⟨#[]⟩, kv, .int .i64 0, .int .i64 0] 29 (0, 0))) ∧ Hid (OR (w2.heap.size + 1) 29 6 (LitR (w2.heap.size + 1) wr) wr bs kv)) (fun _ i _ => (intOf i).toNat)
 case atStart => exact ⟨[], 2 + n0, .slice none 0 0, rfl, by go_num, by simp, Lib.hid (by simp), HC4, HB4, HS4, X4, Lib.hid OR.nil⟩
 case round =>
  obtain ⟨bs, k, kv, rfl, rfl, hkl, HAB, HCj, HBj, HSj, HXj, HOR⟩ := hrel
  cases k with
  | zero =>
   obtain ⟨ka, kc, rfl⟩ : ∃ a c, kv = .slice a bs.length c := by
    obtain ⟨a, c, e, _⟩ := HOR.out.rw (F := fun _ => True) (fun _ _ => trivial)
    exact ⟨a, c, e⟩
   obtain ⟨pb, hpb⟩ : ∃ p, be % 10 = p := ⟨_, rfl⟩
   obtain ⟨pa, hpa⟩ : ∃ p, af % 10 = p := ⟨_, rfl⟩
   have hmp : Int.tmod (be : Int) 10 = (pb : Int) := by
    rw [Int.tmod_eq_emod_of_nonneg (by omega), ← hpb]
    rfl
   have hmq : Int.tmod (af : Int) 10 = (pa : Int) := by
    rw [Int.tmod_eq_emod_of_nonneg (by omega), ← hpa]
    rfl
   have hp9 : pb < 10 := by omega
   have hq9 : pa < 10 := by omega
   have i1 : (0 : Int) ≤ (pb : Int) := by omega
   have i2 : (pb : Int) ≤ 10 := by omega
   have i3 : (0 : Int) ≤ (pa : Int) := by omega
   have i4 : (pa : Int) ≤ 10 := by omega
   clear hpb hpa
   go_wp2_with fail
   go_quiet (fail)
   obtain ⟨tx, htx⟩ : ∃ tx, List.replicate pb (122 : UInt8) ++ bs ++ List.replicate pa 122 = tx := ⟨_, rfl⟩
   have hT : (ByteArray.mk #[122, 122, 122, 122, 122, 122, 122, 122, 122, 122]).extract 0 pb ++ ⟨bs.toArray⟩ ++ (ByteArray.mk #[122, 122, 122, 122, 122, 122, 122, 122, 122, 122]).extract 0 pa = ⟨tx.toArray⟩ := by
    rw [pad_take pb hp9, pad_take pa hq9, ba_app, ba_app, htx]
   have hkl2 : bs.length = 2 + n0 := by omega
   have htl : tx.length = pb + bs.length + pa := by rw [← htx]; simp; omega
   have hbl : 2 ≤ bs.length ∧ bs.length ≤ 8 := by omega
   have htl2 : tx.length ≤ 30 ∧ pb ≤ tx.length := by omega
   have HTX := Lib.hid htx
   rw [hT]
   clear hkl hkl2 htl
   obtain ⟨W9, hW9⟩ : ∃ W9, wr.drewN nq = W9 := ⟨_, rfl⟩
   rw [hW9]
   have hh9 : W9.heap = wr.heap := by rw [← hW9]; rfl
   have hb9 : Below w.heap.size w W9 := by rw [← hW9]; exact ⟨HBj.out.os, HBj.out.tape, HBj.out.output, HBj.out.size, HBj.out.block⟩
   have x9 : W9.heap[w2.heap.size]? = some (.cells #[.int .i64 2, .slice none 0 0, .string ⟨#[]⟩, .slice ka bs.length kc, .int .i64 0, .int .i64 0] 29 (0, 0)) := by rw [hh9]; exact HXj.out
   have hor9 : OR (w2.heap.size + 1) 29 6 (LitR (w2.heap.size + 1) W9) W9 bs (.slice ka bs.length kc) := HOR.out.own (fun j _ => by rw [hh9]) (fun b us h => LitR.go (fun r xs _ _ => by rw [hh9]) b us h) _ (Nat.le_refl _)
   have hN9 := nat_lits hor9
   have hck := lit_ck (bs := bs) (by omega) (by omega)
   have hco := lit_cost (bs := bs) (by omega)
   have HN := Lib.hid hN9
   have HB9 := Lib.hid hb9
   have HX9 := Lib.hid x9
   have HCK := Lib.hid hck
   have HCO := Lib.hid hco
   have hyes : Mt.matR tx (litT bs) false pb = some (pb + bs.length, []) := by rw [← htx]; exact lit_yes lit_pre
   have HYES := Lib.hid hyes
   have HF := Lib.hid (Find_any (litT bs) _ tx pb W9 hN9 (HK.out.below hb9) (by omega) hck hco (by omega) (fun a ha => by rw [← htx]; exact lit_no (lit_npre HAB.out (by omega) ha)) (by rw [hyes]; rfl))
   obtain ⟨b0, b1, b2, b3, b4, b5⟩ := box6 x9
   clear hT hW9 hh9 hb9 x9 hor9 hN9 hck hco hyes HOR htx
   go_wp2_with fail
   refine HF.out.mono ?_
   rintro e w10 ⟨v10, rfl, hv10, hb10⟩
   rw [HYES.out] at hv10
   obtain ⟨p1, q1, g1, m1, h1, ok1, rfl⟩ := hv10.two
   have HV1 : Hid (ok1 = true ∧ p1 = (pb : Int) ∧ q1 = (pb : Int) + (bs.length : Int)) := Lib.hid (by
    rcases hv10.cases with ⟨_, hr1, _⟩ | ⟨v1, e1, ms1, hr1, v2, v3, _⟩
    ·cases hr1
    ·injection hr1 with hr1
     injection hr1 with y1 y2
     subst y1
     exact ⟨v1, v2, by rw [v3]; push_cast; rfl⟩)
   obtain ⟨W11, hW11⟩ : ∃ W11, w10.alloc (.cells #[.int .i64 p1, .int .i64 q1, .slice g1 m1 h1] 39) = W11 := ⟨_, rfl⟩
   have x11 : W11.heap[w10.heap.size]? = some (.cells #[.int .i64 p1, .int .i64 q1, .slice g1 m1 h1] 39 (0, 0)) := by rw [← hW11]; exact Deep.blk_alloc_new _ _
   have hb11 : Below W9.heap.size W9 W11 := by rw [← hW11]; exact hb10.alloc hb10.size _
   have HB11 := Lib.hid hb11
   have HX11 := Lib.hid x11
   have HBW11 := Lib.hid (HB9.out.trans (hb11.mono HB9.out.size))
   obtain ⟨j0, j1, j2, j3, j4, j5⟩ := box6 ((hb11.block _ (heap_lt HX9.out)).trans HX9.out)
   have HFU := Lib.hid (Full_any (litT bs) _ tx W11 (NAt.later hb11 _ _ HN.out) (HK.out.below HBW11.out) (by omega) HCK.out HCO.out)
   clear hv10 hb10 x11 hb11
   go_wp2_with fail
   refine HFU.out.mono ?_
   rintro e w12 ⟨v12, rfl, hv12, hb12⟩
   obtain ⟨p2, q2, g2, m2, h2, ok2, rfl⟩ := hv12.two
   have hok2 : ok2 = decide (tx = bs) := by
    have hf := lit_full tx bs
    rcases hv12.cases with ⟨v1, hr1, _⟩ | ⟨v1, e1, ms1, hr1, _⟩
    ·rw [hr1] at hf
     rw [v1, ← hf]
     rfl
    ·rw [hr1] at hf
     rw [v1, ← hf]
     rfl
   have HOK2 := Lib.hid hok2
   obtain ⟨W13, hW13⟩ : ∃ W13, w12.alloc (.cells #[.int .i64 p2, .int .i64 q2, .slice g2 m2 h2] 39) = W13 := ⟨_, rfl⟩
   have hb13 : Below W11.heap.size W11 W13 := by rw [← hW13]; exact hb12.alloc hb12.size _
   have HB13 := Lib.hid (HB11.out.trans (hb13.mono HB11.out.size))
   have HX13 := Lib.hid ((hb13.block _ (heap_lt HX11.out)).trans HX11.out)
   have HBW13 := Lib.hid (HB9.out.trans (HB13.out.mono HB9.out.size))
   obtain ⟨l0, l1, l2, l3, l4, l5⟩ := box6 ((HB13.out.block _ (heap_lt HX9.out)).trans HX9.out)
   obtain ⟨sz, hsum, hsz, hszl⟩ := str_add bs [122] (by simp; omega)
   simp only [List.length_singleton] at hszl
   have HMM := Lib.hid (Match_any (litT bs) _ sz 0 W13 (NAt.later HB13.out _ _ HN.out) (HK.out.below HBW13.out) (by omega) HCK.out HCO.out (Nat.zero_le _))
   have hy0 : Mt.matR sz (litT bs) false 0 = some (0 + bs.length, []) := by
    rw [hsz]
    exact lit_yes (by rw [List.drop_zero]; exact List.prefix_append _ _)
   have HY0 := Lib.hid hy0
   clear hv12 hok2 hb12 hb13 hsz hy0
   go_wp2_with fail
   refine HMM.out.mono ?_
   rintro e w14 ⟨v14, rfl, hv14, hb14⟩
   rw [HY0.out] at hv14
   obtain ⟨p3, q3, g3, m3, h3, ok3, rfl⟩ := hv14.two
   obtain rfl : ok3 = true := by
    rcases hv14.cases with ⟨_, hr1, _⟩ | ⟨v1, _⟩
    ·cases hr1
    ·exact v1
   have HBW14 := Lib.hid (HBW13.out.trans (hb14.mono HBW13.out.size))
   obtain ⟨W15, hW15⟩ : ∃ W15, w14.alloc (.cells #[.int .i64 p3, .int .i64 q3, .slice g3 m3 h3] 39) = W15 := ⟨_, rfl⟩
   have hb15 : Below W13.heap.size W13 W15 := by rw [← hW15]; exact hb14.alloc hb14.size _
   have HBW15 := Lib.hid (HBW13.out.trans (hb15.mono HBW13.out.size))
   have x11 := (hb15.block _ (heap_lt HX13.out)).trans HX13.out
   have k0 : W15.cell? ⟨w10.heap.size, 0, none⟩ = some (.int .i64 p1) := by rw [Lib.cell_of_heap x11]; rfl
   have k1 : W15.cell? ⟨w10.heap.size, 1, none⟩ = some (.int .i64 q1) := by rw [Lib.cell_of_heap x11]; rfl
   obtain ⟨rfl, hp1, hq1⟩ := HV1.out
   clear hv14 hb14 hb15 x11 HV1
   rw [hp1] at k0
   rw [hq1] at k1
   have hok := HOK2.out
   have hdec : decide (tx = bs) = (tx == bs) := by by_cases h : tx = bs <;> simp [h]
   go_wp2_with fail
   go_ret
   exact ⟨rfl, HBW15.out⟩
  | succ k =>
   have hj0 : (0 : Int) < (k : Int) + 1 := by omega
   have HNX := Lib.hid (next_any w1.heap.size 4 wr HCj.out (by omega) (by omega))
   go_wp2_with fail
   refine HNX.out.mono ?_
   rintro e w5 ⟨x, hx, rfl, hc5, ha5⟩
   obtain ⟨c, hcx⟩ : ∃ c : UInt8, (97 : Int) + (x : Int) = (c.toNat : Int) := ⟨UInt8.ofNat (97 + x), by simp; omega⟩
   have hc97 : 97 ≤ c.toNat ∧ c.toNat ≤ 100 := by omega
   have h5 : wr.heap.size ≤ w5.heap.size := ha5.1.size
   have hsj := HSj.out
   have x5 := (ha5.block (k := w2.heap.size) (by omega) (by omega)).trans HXj.out
   have hst5 : ∀ r, w2.heap.size + 1 ≤ r → r < wr.heap.size → w5.heap[r]? = wr.heap[r]? := fun r hr hl => ha5.block (by omega) hl
   obtain ⟨i0, hi, hz0, hz1, hz2⟩ := info_parts infoN
   obtain ⟨cl, hown, hpush⟩ := HOR.out.cells
   obtain ⟨W5, hW5⟩ : ∃ W5, w5.alloc (.cells #[.int .u8 (c.toNat : Int), .int .u8 (c.toNat : Int)] 47) = W5 := ⟨_, rfl⟩
   have s5 : W5.heap.size = w5.heap.size + 1 := by rw [← hW5]; exact Deep.nblk_alloc _ _
   obtain ⟨W6, hW6⟩ : ∃ W6, W5.alloc (.cells #[.int .i64 1, .slice (some ⟨w5.heap.size, 0, none⟩) 1 1, .string ⟨#[]⟩, .slice none 0 0, .int .i64 0, .int .i64 0] 29) = W6 := ⟨_, rfl⟩
   have s6 : W6.heap.size = w5.heap.size + 2 := by rw [← hW6, Deep.nblk_alloc, s5]
   have hb6 : Below w5.heap.size w5 W6 := by
    rw [← hW6, ← hW5]
    have q1 := (Below.refl w5.heap.size w5).alloc (Nat.le_refl _) (.cells #[.int .u8 (c.toNat : Int), .int .u8 (c.toNat : Int)] 47)
    exact q1.alloc q1.size _
   have hrg : W6.heap[w5.heap.size]? = some (.cells #[.int .u8 (c.toNat : Int), .int .u8 (c.toNat : Int)] 47 (0, 0)) := by
    rw [← hW6]
    refine (Deep.blk_alloc_lt _ _ _ (by omega)).trans ?_
    rw [← hW5]
    exact Deep.blk_alloc_new _ _
   have hnb : W6.heap[w5.heap.size + 1]? = some (.cells #[.int .i64 1, .slice (some ⟨w5.heap.size, 0, none⟩) 1 1, .string ⟨#[]⟩, .slice none 0 0, .int .i64 0, .int .i64 0] 29 (0, 0)) := by
    rw [← hW6, ← s5]
    exact Deep.blk_alloc_new _ _
   have hownd := own_block hown fun b hb => (hb6.block b (by have := own_lt hown hb; omega)).trans (hst5 b (HOR.out.lt hb).1 (own_lt hown hb))
   obtain ⟨kv', We, hrun, hown2, hgr, _, hnew⟩ := run_append_own2 (P := Tryd.prog) (w := W6) (w2.heap.size + 1) 27 27 29 i0 (.agg #[.int .i64 0, .slice none 0 0, .string ⟨#[]⟩, .slice none 0 0, .int .i64 0, .int .i64 0]) 6 88 Tryd.underlying27 hi hz0 hz1 hz2 rfl (by decide) kv bs.length cl hownd ⟨w5.heap.size + 1, 0, none⟩ 1 1 (litU w5.heap.size) rfl (World.news_of_block hnb) (by intro u hu; simp only [litU, List.mem_cons, List.not_mem_nil, or_false] at hu; rcases hu with rfl | rfl | rfl | rfl | rfl | rfl <;> rfl) (by unfold maxLen; omega) (by omega) (by omega)
   obtain ⟨a5, c5, hg5⟩ : ∃ a c, kv' = .slice a (bs.length + 1) c := by
    obtain ⟨_, ⟨h1, h2⟩ | ⟨q, cap, cur, h1, _⟩⟩ := hown2
    ·omega
    ·exact ⟨_, _, h1⟩
   subst hg5
   have hgb : ∀ b, b < W6.heap.size → kv.ownBlock ≠ some b → We.heap[b]? = W6.heap[b]? := fun b hb hne => hgr.block b hb (fun e => hne e.symm)
   have hkl : ∀ b, kv.ownBlock = some b → w2.heap.size + 1 ≤ b := fun b e => (HOR.out.lt e).1
   have hbx : We.heap[w2.heap.size]? = some (.cells #[.int .i64 2, .slice none 0 0, .string ⟨#[]⟩, kv, .int .i64 0, .int .i64 0] 29 (0, 0)) := (hgb _ (by omega) (fun e => by have := hkl _ e; omega)).trans ((hb6.block _ (by omega)).trans x5)
   have hnrg : ∀ r xs, wr.heap[r]? = some (.cells xs 47 (0, 0)) → kv.ownBlock ≠ some r := fun r xs h => own_type hown h (by decide)
   have hlt5 : kv.ownBlock ≠ some w5.heap.size := fun e => by have := own_lt hown e; omega
   have hrgE : We.heap[w5.heap.size]? = some (.cells #[.int .u8 (c.toNat : Int), .int .u8 (c.toNat : Int)] 47 (0, 0)) := (hgb _ (by omega) hlt5).trans hrg
   have horE : OR (w2.heap.size + 1) 29 6 (LitR (w2.heap.size + 1) We) We (bs ++ [c]) (.slice a5 (bs.length + 1) c5) := hpush (LitR (w2.heap.size + 1) We) We c (litU w5.heap.size) _ (fun b us h => LitR.go (fun r xs hB hr => (hgb r (by have := heap_lt hr; omega) (hnrg r xs hr)).trans ((hb6.block r (by have := heap_lt hr; omega)).trans (hst5 r hB (heap_lt hr)))) b us h) rfl ⟨w5.heap.size, rfl, by omega, hrgE⟩ (by omega) hown2
   obtain ⟨W7, hW7⟩ : ∃ W7, We.setCell ⟨w2.heap.size, 3, none⟩ (.slice a5 (bs.length + 1) c5) = W7 := ⟨_, rfl⟩
   have hx7 : W7.heap[w2.heap.size]? = some (.cells #[.int .i64 2, .slice none 0 0, .string ⟨#[]⟩, .slice a5 (bs.length + 1) c5, .int .i64 0, .int .i64 0] 29 (0, 0)) := by rw [← hW7]; exact set_at hbx 3 _
   have ho7 : ∀ b, b ≠ w2.heap.size → W7.heap[b]? = We.heap[b]? := fun b hb => by rw [← hW7]; exact Deep.blk_setCell_other _ _ _ b hb
   have s7 : W7.heap.size = We.heap.size := by rw [← hW7]; exact Deep.nblk_setCell ..
   obtain ⟨W8, hW8⟩ : ∃ W8, W7.alloc (.cells #[.int .u8 (c.toNat : Int)] 5) = W8 := ⟨_, rfl⟩
   have hb8' : Below W7.heap.size W7 W8 := by rw [← hW8]; exact (Below.refl _ _).alloc (Nat.le_refl _) _
   have hcv := conv1 W8 W7.heap.size c (by rw [← hW8]; exact Deep.blk_alloc_new _ _)
   obtain ⟨sc, hsum, hscE, hscl⟩ := str_add bs [c] (by simp; omega)
   have k1 : W6.cell? ⟨w2.heap.size, 3, none⟩ = some kv := by rw [Lib.cell_of_heap ((hb6.block _ (by omega)).trans x5)]; rfl
   have k0 : w5.cell? ⟨w2.heap.size, 3, none⟩ = some kv := by rw [Lib.cell_of_heap x5]; rfl
   have k2 : We.cell? ⟨w2.heap.size, 3, none⟩ = some kv := by rw [Lib.cell_of_heap hbx]; rfl
   have k3 := frz0 hbx 3
   have hgs := hgr.size
   have hrng : ∀ r, w2.heap.size + 1 ≤ r → r < We.heap.size → W8.heap[r]? = We.heap[r]? := fun r hr hl => (hb8'.block r (by omega)).trans (ho7 r (by omega))
   have HOR8 : Hid (OR (w2.heap.size + 1) 29 6 (LitR (w2.heap.size + 1) W8) W8 (bs ++ [c]) (.slice a5 (bs.length + 1) c5)) := Lib.hid (horE.own (fun j hj => hrng j (horE.lt hj).1 (horE.lt hj).2) (fun b us h => LitR.go (fun r xs hB hr => hrng r hB (heap_lt hr)) b us h) _ (Nat.le_refl _))
   have HX8 := Lib.hid ((hb8'.block w2.heap.size (by omega)).trans hx7)
   have HBE : Hid (Below w2.heap.size w5 W8) := Lib.hid ⟨by rw [← hW8, ← hW7]; exact hgr.os.trans hb6.os, by rw [← hW8, ← hW7]; exact hgr.tape.trans hb6.tape, by rw [← hW8, ← hW7]; exact hgr.output.trans hb6.output, by have := hb8'.size; omega, fun b hb => (hb8'.block b (by omega)).trans ((ho7 b (by omega)).trans ((hgb b (by omega) (fun e => by have := hkl b e; omega)).trans (hb6.block b (by omega))))⟩
   have HC8 : Hid (CodesAt W8 w1.heap.size) := Lib.hid (hc5.of_below hg2 HBE.out)
   have HB8 : Hid (Below w.heap.size w W8) := Lib.hid ((HBj.out.trans (ha5.1.mono hwg)).trans (HBE.out.mono (by omega)))
   have HS8 : Hid (w2.heap.size + 1 ≤ W8.heap.size) := Lib.hid (by have := hb8'.size; omega)
   have HAB8 : Hid (∀ x ∈ bs ++ [c], 97 ≤ x.toNat ∧ x.toNat ≤ 100) := Lib.hid (fun x hx => by
    rcases List.mem_append.1 hx with hx | hx
    ·exact HAB.out x hx
    ·rw [List.mem_singleton] at hx
     subst hx
     exact hc97)
   have HSC := Lib.hid hscE
   rw [← s5] at hrun
   clear hi hz0 hz1 hz2 hown hpush hownd hown2 hgr hnew hgb hkl hbx hnrg hlt5 hrgE horE hx7 ho7 hrng hb8' hgs hnb hrg hb6 hst5 x5 hc5 ha5 s5 s6 s7 h5 hsj hscl hscE
   go_wp2_with (at_builtin; refine wpList_append_run rfl _ _ _ rfl _ _ _ rfl rfl hrun ?_)
   go_roundw
   case rel => exact ⟨bs ++ [c], k, _, by rw [← HSC.out], by go_num, by simp; omega, HAB8, HC8, HB8, HS8, HX8, HOR8⟩
   case measure => simp [intOf]
end Go.Proofs.YtihdnlpelfgklaaDoor
namespace Go.Proofs.YtihdnlpelfgklaaDoor
open Go.ChangeShapes Go.WideShapes Go.ChangeAt Go.RowKit
set_option maxRecDepth 1000000 in
theorem literals_law {H : Type} {enc : TypeId × Value → H} {W : World} {base : Nat} {args : Array Value} {ds : List (DataW H)} {p : List MemPlace}
  (hval : ∀ (j : Nat) t v, (#[22, 5, 5] : Array TypeId)[j]? = some t → args[j]? = some v → Value.okWide Tryd.prog W .any base t v)
  (hA : DataW.TrodAll enc Tryd.prog W 0 (fun _ => true) true [22, 5, 5] args.toList ds p) {B : Prop} (_ : B) (hL : laidMetH Tryd.prog laidOne W) :
  Calls Tryd.prog 5 args W fun e w' => e = .returned (.bool true) ∧ Below W.heap.size W w' := by
 obtain ⟨v0, vs0, d0, ds0, p0, q0, hargs, rfl, rfl, h0, r0⟩ := trodAll_cons hA
 obtain ⟨v1, vs1, d1, ds1, p1, q1, rfl, rfl, rfl, h1, r1⟩ := trodAll_cons r0
 obtain ⟨v2, vs2, d2, ds2, p2, q2, rfl, rfl, rfl, h2, r2⟩ := trodAll_cons r1
 obtain ⟨rfl, rfl, rfl⟩ := trodAll_nil r2
 obtain rfl : args = #[v0, v1, v2] := by cases args; simp_all
 obtain ⟨bs, hbs⟩ := open_bytes (hval 0 22 v0 rfl rfl) h0
 obtain ⟨x, rfl, rfl, rfl, wx⟩ := open_int Tryd.underlying5 (hval 1 5 v1 rfl rfl) h1
 obtain ⟨c, hc, rfl⟩ := u8_nat wx
 obtain ⟨y, rfl, rfl, rfl, wy⟩ := open_int Tryd.underlying5 (hval 2 5 v2 rfl rfl) h2
 obtain ⟨d, hd, rfl⟩ := u8_nat wy
 exact literals_any bs v0 c d hc hd W hbs.bs (k_of_laid hL)
end Go.Proofs.YtihdnlpelfgklaaDoor
namespace Go.Proofs.YtihdnlpelfgklaaDoor
open Go.ChangeShapes Go.WideShapes Go.ChangeAt Go.RowKit
namespace LiteralsRow
set_option maxRecDepth 1000000 in
theorem contract (H : Type) (enc : TypeId × Value → H) (W : World) (base : Nat) (args : Array Value) (ds gs : List (DataW H)) (before : List MemPlace)
  (hval : ∀ (j : Nat) t v, Tryd.f5.params[j]? = some t → args[j]? = some v → Value.okWide Tryd.prog W .any base t v)
  (hW : DataW.Whole enc Tryd.prog Tryd.f5.params.toList Rows.matcherLiteralsSpec.vars false W args.toList ds gs before)
  (hbound : (DataW.weightsEach Tryd.prog (Tryd.f5.params.toList ++ (OpenSpec.ofChange Rows.matcherLiteralsSpec).bare.plain.varTypes Tryd.prog) (ds ++ gs)).all (· ≤ reachBytes) = true)
  (hL : laidMetH Tryd.prog Rows.matcherLiteralsRow.laid W) :
  Calls Tryd.prog 5 args W fun e W' => ∃ v, e = .returned v ∧ Rows.matcherLiteralsSpec.post enc Tryd.prog Tryd.f5 false true false false W args v W' := by
 have hW' := hW
 obtain ⟨p, q, hA, hV, rfl, _, _⟩ := hW
 obtain ⟨rfl, rfl⟩ := trodVars_none hV
 rw [List.append_nil] at hbound
 rw [Tryd.params5] at hA hval
 refine (literals_law hval hA hbound hL).mono fun e W' ⟨he, hb⟩ => ?_
 subst he
 refine ⟨_, rfl, post_true hW' rfl ?_ rfl ?_ ?_ ?_ hb⟩
 ·rw [Tryd.params5]
  intro t ht
  simp only [List.mem_cons, List.not_mem_nil, or_false] at ht
  have hs : decide (22 < Tryd.prog.types.size) = true ∧ decide (5 < Tryd.prog.types.size) = true ∧ decide (5 < Tryd.prog.types.size) = true := ⟨by kernel_rfl, by kernel_rfl, by kernel_rfl⟩
  obtain ⟨s0, s1, s2⟩ := hs
  rcases ht with rfl | rfl | rfl
  ·exact of_decide_eq_true s0
  ·exact of_decide_eq_true s1
  ·exact of_decide_eq_true s2
 all_goals
  obtain ⟨v0, vs0, d0, ds0, p0, q0, hargs, rfl, rfl, h0, r0⟩ := trodAll_cons hA
  obtain ⟨v1, vs1, d1, ds1, p1, q1, _, rfl, rfl, h1, r1⟩ := trodAll_cons r0
  obtain ⟨v2, vs2, d2, ds2, p2, q2, _, rfl, rfl, h2, r2⟩ := trodAll_cons r1
  obtain ⟨_, rfl, rfl⟩ := trodAll_nil r2
  rfl
theorem laid_met (os : Os) : laidMet Tryd.prog Rows.matcherLiteralsRow.laid ((laidWorld os).forCall (fun _ _ => 0) ⟨#[], #[.slice none 0 0, .int .u8 0, .int .u8 0], []⟩).memory :=
 laidMet_of_run' 8 (by kernel_rfl) (by kernel_rfl)
theorem reads (os : Os) {H : Type} (enc : TypeId × Value → H) : ∃ places, DataW.whole enc Tryd.prog ((laidWorld os).forCall (fun _ _ => 0) ⟨#[], #[.slice none 0 0, .int .u8 0, .int .u8 0], []⟩).memory Tryd.f5.params.toList Rows.matcherLiteralsSpec.vars false (#[.slice none 0 0, .int .u8 0, .int .u8 0] : Array Value).toList 8 = some ([.nil, .lit (.int .u8 0), .lit (.int .u8 0)], [], places) :=
 ⟨[], by kernel_rfl⟩
set_option maxRecDepth 100000 in
theorem lifted (os : Os) (started : os.Started) (H : Type) (enc : TypeId × Value → H) (F : Stop.Interp) :
  ReturnsInHanded {} Tryd.checked os 5 .any ((OpenSpec.ofChange Rows.matcherLiteralsSpec).preRow enc Tryd.prog Tryd.f5 Rows.matcherLiteralsRow.domain false Rows.matcherLiteralsRow.laid) (((OpenSpec.ofChange Rows.matcherLiteralsSpec).at F).post enc Tryd.prog Tryd.f5 false true false false) := by
 obtain ⟨places, hx⟩ := reads os enc
 refine returnsInHanded_of_row (C := Tryd.checked) (s := (OpenSpec.ofChange Rows.matcherLiteralsSpec)) own started (by kernel_rfl) Tryd.func5
  (witness_row_at (enc := enc) (C := Tryd.checked) false (laidWorld os) #[.slice none 0 0, .int .u8 0, .int .u8 0] rfl (by kernel_rfl) (by kernel_rfl) (by kernel_rfl)
   (OpenSpec.preRow_of_cond 8 hx (by kernel_rfl) (fun k hk => by cases hk) (by kernel_rfl) (laid_met os))) ?_
 intro W base args ds gs before hval hW _ _ hsz hL _ _
 exact contract H enc W base args ds gs before hval hW hsz hL
theorem said : Rows.MatcherLiteralsSaid :=
 OpenClaim.holds_of_cond 5 Tryd.f5 rfl rfl rfl rfl rfl rfl rfl ⟨rfl, rfl, rfl, rfl, rfl⟩ rfl rfl rfl rfl rfl (by kernel_rfl) Tryd.func5 (by kernel_rfl)
  (of_decide_eq_true (by kernel_rfl)) (by unfold Func.isWrapper; first | (rw [if_pos (by decide +kernel)]; kernel_rfl) | (rw [if_neg (by decide +kernel)]; exact ⟨rfl, rfl⟩))
  (fun os started H enc _ F => by rw [OpenClaim.pre_eq_preRow]; exact lifted os started H enc F)
theorem plain (f : FuncId) (fn : Func) (hf : Tryd.pinned.checked.prog.funcNamed "logtide/logtidelaw03.MatcherLiterals" = some f) (hfn : Tryd.pinned.checked.prog.funcs[f]? = some fn) :
  false = Tryd.pinned.checked.prog.looks [] ∧ ∀ (j : Nat) t, fn.params[j]? = some t → Tryd.pinned.checked.prog.wantsStandIn t = false := by
 obtain rfl : f = 5 := Option.some.inj ((show Tryd.prog.funcNamed "logtide/logtidelaw03.MatcherLiterals" = some 5 by kernel_rfl).symm.trans hf) |>.symm
 obtain rfl : fn = Tryd.f5 := (Option.some.inj (Tryd.func5.symm.trans hfn)).symm
 refine ⟨by kernel_rfl, fun j t ht => ?_⟩
 rw [Tryd.params5] at ht
 have hm := Array.mem_of_getElem? ht
 simp only [List.mem_toArray, List.mem_cons, List.not_mem_nil, or_false] at hm
 rcases hm with rfl | rfl | rfl
 ·exact (show Tryd.prog.wantsStandIn 22 = false by kernel_rfl)
 ·exact (show Tryd.prog.wantsStandIn 5 = false by kernel_rfl)
 ·exact (show Tryd.prog.wantsStandIn 5 = false by kernel_rfl)
end LiteralsRow
theorem literals_card : Rows.MatcherLiteralsCardSaid :=
 Claim7.holds_tied_plain_at .later [] _ _ _ _ LiteralsRow.said (fun _ h => by cases h) (by kernel_rfl) (fun _ h => by cases h) matcherLiterals_row_tie rfl ⟨rfl, rfl⟩ (by kernel_rfl) rfl LiteralsRow.plain (by kernel_rfl)
#print axioms literals_card
end Go.Proofs.YtihdnlpelfgklaaDoor

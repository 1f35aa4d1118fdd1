/-
 Joined: EgJ, EgK, EgL, EvK, EvP, EvL, EvI, EgM.
-/
import Derived.Test.YtmpbjaodgajnfaaGreatDoorEhN
import Derived.Test.YtmpbjaodgajnfaaGreatDoorEhV
import Derived.Test.YtmpbjaodgajnfaaGreatDoorEhL
import Derived.Test.YtmpbjaodgajnfaaGreatDoorEhU
import Derived.Lib.AppendZerosOnto
import Derived.Lib.Overlaps
import Derived.Laws.IdiomCopy
import Derived.Laws.NewBlocks
import Derived.BigRegion
namespace Go.Proofs.YtmpbjaodgajnfaaGreatDoor
open Go.RowKit
structure EvSt (d : Evd) : Prop where
 good : EvGood d
 nl3 : d.2.1.length ≤ 3
 tl : ∀ x ∈ d.2.1, x.2.2.length ≤ 60
 nf4 : d.2.2.length ≤ 4
structure DG (F : Nat → Prop) (W : World) (d : Evd) : Prop where
 st : EvSt d
 lmem : RW F 3 LnR W d.2.1 d.1.lv
 fmem : RW F 2 FdR W d.2.2 d.1.fv
 fnil : d.2.2 = [] → d.1.fv = .slice none 0 0
theorem DG.go {F F' : Nat → Prop} {W W' : World} {d : Evd} (h : DG F W d) (hs : Stay F F' W W') : DG F' W' d :=
 ⟨h.st, h.lmem.go hs (fun _ _ h => h), h.fmem.go hs (fun _ _ h => h), h.fnil⟩
theorem LnG.len : ∀ {l : List Ln} {a b : Int}, LnG a b l → ∀ x ∈ l, x.2.2.length ≤ 60
 | [], _, _, _, _, hx => by cases hx
 | y :: l, a, b, h, x, hx => by
  rcases List.mem_cons.1 hx with rfl | hx
  ·exact h.2.2.2.1
  ·exact h.2.2.2.2.len x hx
theorem ItG.dg {h f fr : Int} {F : Nat → Prop} {E : Ev} {ls : List Ln} {fs : List Fd} {W : World} (k : ItG h f fr F E ls fs W) (hh : 0 ≤ h ∧ h ≤ 999) (hf : 0 ≤ f ∧ f ≤ 1000) (h1 : 0 ≤ fr) (h2 : fr < E.hi) (h3 : E.hi ≤ 60000) : DG F W (E, ls, fs) := by
 refine ⟨⟨⟨by rw [k.host]; exact hh, by rw [k.file]; show 0 ≤ f ∧ f ≤ 2147483646; omega, by rw [k.frm]; exact ⟨h1, h2, h3⟩, k.time, k.weight, ?_, ⟨k.nl.1, by have := k.nl.2; show ls.length ≤ 40; omega⟩, by have := k.trace; show E.trace.length ≤ 32; omega, by have := k.stream; show E.stream.length ≤ 32; omega, k.flds.srt, by have := k.flds.len; show fs.length ≤ 32; omega, fun x hx => ?_⟩, k.nl.2, k.lines.len, k.flds.len⟩, k.lmem, k.fmem, k.fnil⟩
 ·rw [k.frm]
  exact k.lines.ok
 ·obtain ⟨j, hj, e⟩ := k.flds.names x hx
  have := k.flds.vals x hx
  exact ⟨by rw [e]; exact fieldF_low j hj, by omega⟩
abbrev Itm := List UInt8 × Evd
def ItM (F : Nat → Prop) (W : World) (x : Itm) (us : List Value) : Prop := us = (itC x.1 x.2.1).toList ∧ x.2.1.Sl ∧ (x.1 = [] → DG F W x.2)
theorem ItM.go {F F' : Nat → Prop} {W W' : World} (hs : Stay F F' W W') (x : Itm) (us : List Value) (h : ItM F W x us) : ItM F' W' x us := ⟨h.1, h.2.1, fun e => (h.2.2 e).go hs⟩
def FiR (F : Nat → Prop) (W : World) (x : List Itm) (us : List Value) : Prop := ∃ v, us = [v] ∧ RW F 11 (ItM F W) W x v ∧ x.length ≤ 4
theorem FiR.go {F F' : Nat → Prop} {W W' : World} (hs : Stay F F' W W') (x : List Itm) (us : List Value) (h : FiR F W x us) : FiR F' W' x us := by
 obtain ⟨v, h1, h2, h3⟩ := h
 exact ⟨v, h1, h2.go hs (ItM.go hs), h3⟩
theorem infoIt3 : (Tryz.prog.info? 66).map (fun i => (i.zero, i.size, i.bytes)) = some (some (.agg (itC [] ev0)), 11, 144) := by kernel_rfl
theorem infoItR : (Tryz.prog.info? 64).map (fun i => (i.zero, i.size, i.bytes)) = some (some (.slice none 0 0), 1, 24) := by kernel_rfl
theorem OR.rwo {α : Type} {B : Nat} {e : TypeId} {k : Nat} {R : α → List Value → Prop} {W : World} {xs : List α} {v : Value} (h : OR B e k R W xs v) {F : Nat → Prop} (hF : ∀ b, v.ownBlock = some b → F b) : RW F k R W xs v := by
 obtain ⟨a, c, e1, hm, hk⟩ := h.rw (F := fun b => v.ownBlock = some b ∨ B ≤ b) (fun b hb => .inr hb)
 refine ⟨a, c, e1, hm, fun h0 => ?_⟩
 obtain ⟨blk, off, e2, hl, _, hc⟩ := hk h0
 exact ⟨blk, off, e2, hl, hF blk (by rw [e1, e2]; rfl), hc⟩
theorem OR.keepo {α : Type} {B : Nat} {e : TypeId} {k : Nat} {R R' : α → List Value → Prop} {W W' : World} {xs : List α} {v : Value} (h : OR B e k R W xs v) (hb : ∀ b, v.ownBlock = some b → W'.heap[b]? = W.heap[b]?) (hR : ∀ x us, R x us → R' x us) : OR B e k R' W' xs v := by
 obtain ⟨⟨uss, hlen, hel, ho⟩, hsz⟩ := h
 exact ⟨⟨uss, hlen, fun i h h' => ⟨(hel i h h').1, hR _ _ (hel i h h').2⟩, own_block ho hb⟩, hsz⟩
theorem OR.blk {α : Type} {B : Nat} {e : TypeId} {k : Nat} {R : α → List Value → Prop} {W : World} {xs : List α} {v : Value} (h : OR B e k R W xs v) {b : Nat} (hb : v.ownBlock = some b) : B ≤ b ∧ b < W.heap.size := by
 obtain ⟨⟨uss, hlen, hel, ho⟩, hsz⟩ := h
 refine ⟨?_, own_lt ho hb⟩
 obtain ⟨h1, ⟨rfl, _⟩ | ⟨g, cap, cur, rfl, hB, hg, hr⟩⟩ := ho
 ·cases hb
 ·cases hb; exact hB
structure FS (w : World) (g : Nat) (fls : List (List Itm)) (fv : Value) (its : List Itm) (iv : Value) (W : World) : Prop where
 codes : CodesAt W g
 apart : Apart g w W
 mem : ∃ F : Nat → Prop, (∀ b, F b → w.heap.size ≤ b ∧ b < W.heap.size) ∧ (∀ b, F b → fv.ownBlock ≠ some b ∧ iv.ownBlock ≠ some b) ∧ (∀ b, fv.ownBlock = some b → iv.ownBlock ≠ some b) ∧
  OR w.heap.size 64 1 (FiR F W) W fls fv ∧ OR w.heap.size 66 11 (ItM F W) W its iv
theorem FS.start {w W : World} {g : Nat} (hc : CodesAt W g) (ha : Apart g w W) : FS w g [] (.slice none 0 0) [] (.slice none 0 0) W :=
 ⟨hc, ha, fun _ => False, fun _ h => h.elim, fun _ h => h.elim, (fun b h => by cases h), OR.nil, OR.nil⟩
theorem FS.go {w W W' : World} {g : Nat} {fls : List (List Itm)} {fv : Value} {its : List Itm} {iv : Value} (h : FS w g fls fv its iv W) (hg : g < w.heap.size) (ha : Apart g W W') (hc : CodesAt W' g) : FS w g fls fv its iv W' := by
 obtain ⟨F, h1, h2, h3, h4, h5⟩ := h.mem
 have hs : Stay F F W W' := ⟨ha.1.size, fun k hk hl => ⟨hk, ha.block (by have := (h1 k hk).1; omega) hl⟩⟩
 exact ⟨hc, h.apart.trans ha, F, fun b hb => ⟨(h1 b hb).1, Nat.lt_of_lt_of_le (h1 b hb).2 ha.1.size⟩, h2, h3, h4.keep (fun k hk hl => ha.block (by omega) hl) (FiR.go hs), h5.keep (fun k hk hl => ha.block (by omega) hl) (ItM.go hs)⟩
theorem FS.on {w W W' : World} {g : Nat} (hc : CodesAt W g) (ha : Apart g w W) (hg : g < w.heap.size) (hb : Below w.heap.size W W') : CodesAt W' g ∧ Apart g w W' :=
 ⟨hc.of_below hg hb, ⟨ha.1.trans (hb.mono (by omega)), fun k h1 h2 => (hb.block k h2).trans (ha.2 k h1 h2)⟩⟩
theorem itC_one {r : List UInt8} {E : Ev} (h : E.Sl) : ∀ u ∈ (itC r E).toList, u.oneCell' = true := by
 obtain ⟨⟨a, n, c, h1⟩, a', n', c', h2⟩ := h
 intro u hu
 unfold itC at hu
 rw [h1, h2] at hu
 simp only [List.mem_cons, List.not_mem_nil, or_false] at hu
 rcases hu with rfl | rfl | rfl | rfl | rfl | rfl | rfl | rfl | rfl | rfl | rfl <;> rfl
theorem FS.file {w W : World} {g : Nat} {fls : List (List Itm)} {fv : Value} {its : List Itm} {iv : Value} (h : FS w g fls fv its iv W) (hg : g < w.heap.size) (hf : fls.length ≤ 100) (hi : its.length ≤ 4) :
  ∃ a c We, (Builtin.append_ #[62, 62] 62 #[fv, .slice (some ⟨W.heap.size, 0, none⟩) 1 1]).run Tryz.prog (W.alloc (.cells #[iv] 64)) = .ok (.slice a (fls.length + 1) c) We ∧ FS w g (fls ++ [its]) (.slice a (fls.length + 1) c) [] (.slice none 0 0) We := by
 obtain ⟨F, h1, h2, h3, h4, h5⟩ := h.mem
 obtain ⟨i0, hi0, hz0, hz1, hz2⟩ := info_parts infoItR
 obtain ⟨cs, hown, hpush⟩ := h4.cells
 have hsz := h.apart.1.size
 have hivs : ∃ a n c, iv = .slice a n c := by
  obtain ⟨a, c, e, _⟩ := h5.rw (F := fun _ => True) (fun _ _ => trivial)
  exact ⟨a, _, c, e⟩
 obtain ⟨Wd, hWd⟩ : ∃ Wd, W.alloc (.cells #[iv] 64) = Wd := ⟨_, rfl⟩
 have hdb : Below W.heap.size W Wd := by rw [← hWd]; exact (Below.refl _ _).alloc (Nat.le_refl _) _
 have hds : Wd.heap.size = W.heap.size + 1 := by rw [← hWd, Deep.nblk_alloc]
 have hnb : Wd.heap[W.heap.size]? = some (.cells #[iv] 64 (0, 0)) := by rw [← hWd]; exact Deep.blk_alloc_new W _
 have hownd := own_block hown fun b hb => hdb.block b (own_lt hown hb)
 obtain ⟨fv', We, hrun, hown2, hgr, _, hnew⟩ := run_append_own2 (P := Tryz.prog) (w := Wd) w.heap.size 62 62 64 i0 (.slice none 0 0) 1 24 Tryz.underlying62 hi0 hz0 hz1 hz2 rfl (by decide) fv fls.length cs hownd ⟨W.heap.size, 0, none⟩ 1 1 [iv] rfl (World.news_of_block hnb) (by intro u hu; simp only [List.mem_cons, List.not_mem_nil, or_false] at hu; obtain ⟨a, n, c, rfl⟩ := hivs; rw [hu]; rfl) (by unfold maxLen; omega) (by omega) (by omega)
 obtain ⟨a1, c1, e1⟩ : ∃ a c, fv' = .slice a (fls.length + 1) c := by
  obtain ⟨_, ⟨h1, h2⟩ | ⟨q, cap, cur, h1, _⟩⟩ := hown2
  ·omega
  ·exact ⟨_, _, h1⟩
 subst e1
 have hB : Below w.heap.size W We := (hdb.mono hsz).grown hgr (by omega) (fun b hb => (h4.blk hb).1)
 obtain ⟨hc', ha'⟩ := FS.on h.codes h.apart hg hB
 have hk : ∀ b, b < W.heap.size → fv.ownBlock ≠ some b → We.heap[b]? = W.heap[b]? := fun b hb hne => (hgr.block b (by omega) (fun e => hne e.symm)).trans (hdb.block b hb)
 have hS : Stay F (fun b => F b ∨ iv.ownBlock = some b) W We := ⟨hB.size, fun b hb hl => ⟨.inl hb, hk b hl (h2 b hb).1⟩⟩
 have hS2 : Stay (fun b => iv.ownBlock = some b) (fun b => F b ∨ iv.ownBlock = some b) W We := ⟨hB.size, fun b hb hl => ⟨.inr hb, hk b hl (fun e => h3 b e hb)⟩⟩
 have hrw : RW (fun b => F b ∨ iv.ownBlock = some b) 11 (ItM (fun b => F b ∨ iv.ownBlock = some b) We) We its iv := (h5.rwo (F := fun b => iv.ownBlock = some b) (fun _ h => h)).go hS2 (ItM.go hS)
 refine ⟨a1, c1, We, by rw [hWd]; exact hrun, hc', ha', fun b => F b ∨ iv.ownBlock = some b, fun b hb => ?_, fun b hb => ⟨fun e => ?_, (by intro e; cases e)⟩, (fun b _ e => by cases e), ?_, OR.nil⟩
 ·rcases hb with hb | hb
  ·exact ⟨(h1 b hb).1, Nat.lt_of_lt_of_le (h1 b hb).2 hB.size⟩
  ·exact ⟨(h5.blk hb).1, Nat.lt_of_lt_of_le (h5.blk hb).2 hB.size⟩
 ·have hbl : b < W.heap.size := hb.elim (fun hb => (h1 b hb).2) (fun hb => (h5.blk hb).2)
  rcases hnew b e with e | e
  ·exact hb.elim (fun hb => (h2 b hb).1 e) (fun hb => h3 b e hb)
  ·omega
 ·exact hpush (FiR (fun b => F b ∨ iv.ownBlock = some b) We) We its [iv] _ (FiR.go hS) rfl ⟨iv, rfl, hrw, hi⟩ (by omega) hown2
theorem FS.item {w W1 W2 : World} {g : Nat} {fls : List (List Itm)} {fv : Value} {its : List Itm} {iv : Value} (h : FS w g fls fv its iv W1) (hg : g < w.heap.size) (ha : Apart g W1 W2) (hc : CodesAt W2 g) (hi : its.length ≤ 100) (x : Itm) (hsl : x.2.1.Sl)
  (hx : x.1 = [] → DG (fun b => W1.heap.size ≤ b) W2 x.2) :
  ∃ a c We, (Builtin.append_ #[64, 64] 64 #[iv, .slice (some ⟨W2.heap.size + 1, 0, none⟩) 1 1]).run Tryz.prog ((W2.alloc (.cells (itC x.1 x.2.1) 66)).alloc (.cells (itC x.1 x.2.1) 66)) = .ok (.slice a (its.length + 1) c) We ∧
   FS w g fls fv (its ++ [x]) (.slice a (its.length + 1) c) We ∧ We.heap[W2.heap.size]? = some (.cells (itC x.1 x.2.1) 66 (0, 0)) := by
 have hlt1 : ∀ b, fv.ownBlock = some b → b < W1.heap.size := by
  obtain ⟨F, _, _, _, h4, _⟩ := h.mem
  exact fun b hb => (h4.blk hb).2
 have hlt2 : ∀ b, iv.ownBlock = some b → b < W1.heap.size := by
  obtain ⟨F, _, _, _, _, h5⟩ := h.mem
  exact fun b hb => (h5.blk hb).2
 obtain ⟨F, h1, h2, h3, h4, h5⟩ := (h.go hg ha hc).mem
 obtain ⟨i0, hi0, hz0, hz1, hz2⟩ := info_parts infoIt3
 obtain ⟨cs, hown, hpush⟩ := h5.cells
 have hsz := h.apart.1.size
 have hsz2 := ha.1.size
 obtain ⟨W3, hW3⟩ : ∃ W3, W2.alloc (.cells (itC x.1 x.2.1) 66) = W3 := ⟨_, rfl⟩
 have h3b : Below W2.heap.size W2 W3 := by rw [← hW3]; exact (Below.refl _ _).alloc (Nat.le_refl _) _
 have h3s : W3.heap.size = W2.heap.size + 1 := by rw [← hW3, Deep.nblk_alloc]
 have h3n : W3.heap[W2.heap.size]? = some (.cells (itC x.1 x.2.1) 66 (0, 0)) := by rw [← hW3]; exact Deep.blk_alloc_new W2 _
 rw [hW3]
 obtain ⟨Wd, hWd⟩ : ∃ Wd, W3.alloc (.cells (itC x.1 x.2.1) 66) = Wd := ⟨_, rfl⟩
 have hdb3 : Below W3.heap.size W3 Wd := by rw [← hWd]; exact (Below.refl _ _).alloc (Nat.le_refl _) _
 have hdb : Below W2.heap.size W2 Wd := h3b.trans (hdb3.mono h3b.size)
 have hds : Wd.heap.size = W2.heap.size + 2 := by rw [← hWd, Deep.nblk_alloc, h3s]
 have hnb : Wd.heap[W2.heap.size + 1]? = some (.cells (itC x.1 x.2.1) 66 (0, 0)) := by rw [← hWd, ← h3s]; exact Deep.blk_alloc_new W3 _
 have hnb0 : Wd.heap[W2.heap.size]? = some (.cells (itC x.1 x.2.1) 66 (0, 0)) := (hdb3.block _ (by omega)).trans h3n
 have hownd := own_block hown fun b hb => hdb.block b (own_lt hown hb)
 obtain ⟨iv', We, hrun, hown2, hgr, _, hnew⟩ := run_append_own2 (P := Tryz.prog) (w := Wd) w.heap.size 64 64 66 i0 (.agg (itC [] ev0)) 11 144 Tryz.underlying64 hi0 hz0 hz1 hz2 rfl (by decide) iv its.length cs hownd ⟨W2.heap.size + 1, 0, none⟩ 1 1 (itC x.1 x.2.1).toList rfl (World.news_of_block hnb) (itC_one hsl) (by unfold maxLen; omega) (by omega) (by omega)
 obtain ⟨a1, c1, e1⟩ : ∃ a c, iv' = .slice a (its.length + 1) c := by
  obtain ⟨_, ⟨h1, h2⟩ | ⟨q, cap, cur, h1, _⟩⟩ := hown2
  ·omega
  ·exact ⟨_, _, h1⟩
 subst e1
 have hB : Below w.heap.size W2 We := (hdb.mono (by omega)).grown hgr (by omega) (fun b hb => (h5.blk hb).1)
 obtain ⟨hc', ha'⟩ := FS.on hc (h.apart.trans ha) hg hB
 have hk : ∀ b, b < W2.heap.size → iv.ownBlock ≠ some b → We.heap[b]? = W2.heap[b]? := fun b hb hne => (hgr.block b (by omega) (fun e => hne e.symm)).trans (hdb.block b hb)
 obtain ⟨F', hF'⟩ : ∃ F' : Nat → Prop, (fun b => F b ∨ (W1.heap.size ≤ b ∧ b < W2.heap.size)) = F' := ⟨_, rfl⟩
 have hS : Stay F F' W2 We := ⟨hB.size, fun b hb hl => ⟨by rw [← hF']; exact .inl hb, hk b hl (h2 b hb).2⟩⟩
 have hS2 : Stay (fun b => W1.heap.size ≤ b) F' W2 We := ⟨hB.size, fun b hb hl => ⟨by rw [← hF']; exact .inr ⟨hb, hl⟩, hk b hl (fun e => by have := hlt2 b e; omega)⟩⟩
 refine ⟨a1, c1, We, by rw [hWd]; exact hrun, ⟨hc', ha', F', fun b hb => ?_, fun b hb => ?_, fun b hb e => ?_, ?_, ?_⟩, (hgr.block _ (by omega) (fun e => by have := hlt2 _ e.symm; omega)).trans hnb0⟩
 ·rw [← hF'] at hb
  rcases hb with hb | hb
  ·exact ⟨(h1 b hb).1, Nat.lt_of_lt_of_le (h1 b hb).2 hB.size⟩
  ·exact ⟨by omega, Nat.lt_of_lt_of_le hb.2 hB.size⟩
 ·rw [← hF'] at hb
  have hbl : b < W2.heap.size := hb.elim (fun hb => (h1 b hb).2) (fun hb => hb.2)
  refine ⟨fun e => ?_, fun e => ?_⟩
  ·rcases hb with hb | hb
   ·exact (h2 b hb).1 e
   ·have := hlt1 b e; omega
  ·rcases hnew b e with e | e
   ·rcases hb with hb | hb
    ·exact (h2 b hb).2 e
    ·have := hlt2 b e; omega
   ·omega
 ·rcases hnew b e with e | e
  ·exact h3 b hb e
  ·have := hlt1 b hb; omega
 ·exact h4.keepo (fun b hb => hk b (h4.blk hb).2 (h3 b hb)) (FiR.go hS)
 ·exact hpush (ItM F' We) We x _ _ (ItM.go hS) rfl ⟨rfl, hsl, fun e => (hx e).go hS2⟩ (by omega) hown2
end Go.Proofs.YtmpbjaodgajnfaaGreatDoor
namespace Go.Proofs.YtmpbjaodgajnfaaGreatDoor
open Go.RowKit
theorem infoIt4 : (Tryz.prog.info? 66).map (fun i => (i.zero, i.size)) = some (some (.agg (itC [] ev0)), 11) := by kernel_rfl
theorem FS.sl {w W : World} {g : Nat} {fls : List (List Itm)} {fv : Value} {its : List Itm} {iv : Value} (h : FS w g fls fv its iv W) : (∃ a c, fv = .slice a fls.length c) ∧ ∃ a c, iv = .slice a its.length c := by
 obtain ⟨F, _, _, _, h4, h5⟩ := h.mem
 obtain ⟨a, c, e, _⟩ := h4.rw (F := fun _ => True) (fun _ _ => trivial)
 obtain ⟨a', c', e', _⟩ := h5.rw (F := fun _ => True) (fun _ _ => trivial)
 exact ⟨⟨a, c, e⟩, a', c', e'⟩
def FilesP (g : Nat) (w : World) (e : Ending) (w' : World) : Prop := ∃ v fls, e = .returned v ∧ Hid (FS w g fls v [] (.slice none 0 0) w') ∧ fls.length ≤ 3
set_option maxRecDepth 100000 in
set_option maxHeartbeats 16000000 in
theorem files_any (g : Nat) (h : Int) (w : World) (hc : CodesAt w g) (hh : 0 ≤ h ∧ h ≤ 999) : Calls Tryz.prog 22 #[.pointer (some ⟨g, 0, none⟩), .int .i64 h, .int .i64 4] w (FilesP g w) := by
 have HGW := Lib.hid hc.1
 have HL0 := Lib.hid (FS.start hc (Apart.refl g w))
 have HH := Lib.hid hh
 obtain ⟨fsv, hev9⟩ := undIt2
 have HU := Lib.hid hev9
 have HIS := Lib.hid (zero_of_info infoIt4).2
 clear hc hh hev9
 go_enter Tryz.func22, Tryz.ntmps22
 go_wp2_with fail
 go_loopw [7, 8] (fun a i wr => ∃ (k : Nat) (fls : List (List Itm)), i = .int .i64 (k : Int) ∧ k ≤ 3 ∧ Hid (fls.length = k) ∧ Hid (FS w g fls a [] (.slice none 0 0) wr)) (fun _ i _ => 3 - (intOf i).toNat)
 case atStart => exact ⟨0, [], rfl, Nat.zero_le _, Lib.hid rfl, HL0⟩
 case round =>
  obtain ⟨k, fls, rfl, hk, HFL, HS⟩ := hrel
  clear HL0
  go_wp2_with fail
  refine (next_any g 3 _ HS.out.codes (by omega) (by omega)).mono ?_
  rintro e w1 ⟨n, hn, rfl, hca, hap⟩
  have HS1 := Lib.hid (HS.out.go HGW.out hap hca)
  clear hca hap HS
  by_cases hkn : k ≤ n
  ·have hkn' : (k : Int) ≤ (n : Int) := by omega
   go_wp2_with fail
   refine (next_any g 5 _ HS1.out.codes (by omega) (by omega)).mono ?_
   rintro e w2 ⟨m, hm, rfl, hca, hap⟩
   have HS2 := Lib.hid (HS1.out.go HGW.out hap hca)
   clear hca hap HS1
   go_wp2_with fail
   go_loopw [9, 10, 11] (fun l a i wr => ∃ (at_ : Int) (j : Nat) (its : List Itm), a = .int .i64 at_ ∧ i = .int .i64 (j : Int) ∧ its.length + j ≤ 4 ∧ 0 ≤ at_ ∧ at_ ≤ 186 * (its.length : Int) ∧ Hid (FS w g fls u7 its l wr)) (fun _ _ i _ => (intOf i).toNat)
   case atStart => exact ⟨0, m, [], rfl, rfl, by simp only [List.length_nil]; omega, by omega, by simp, HS2⟩
   case round =>
    obtain ⟨at_, j, its, rfl, rfl, hj, ha0, ha1, HN⟩ := hrel
    clear HS2
    obtain ⟨_, aI, cI, hI⟩ := HN.out.sl
    obtain ⟨q, hq⟩ : ∃ q, its.length = q := ⟨_, rfl⟩
    rw [hq] at hj ha1 hI
    subst hI
    have HQ := Lib.hid hq
    clear hq
    cases j with
    | zero =>
     obtain ⟨a1, c1, We, hrun, hnew⟩ := HN.out.file HGW.out (by have := HFL.out; omega) (by have := HQ.out; omega)
     have HNEW := Lib.hid hnew
     clear hnew
     go_wp2_with (at_builtin; refine wpList_append_run rfl _ _ _ rfl _ _ _ rfl rfl hrun ?_)
     go_roundw
     case rel => exact ⟨k + 1, fls ++ [its], by go_num, by omega, Lib.hid (by rw [List.length_append, HFL.out]; rfl), HNEW⟩
     case measure => simp [intOf]; omega
    | succ j =>
     have hj0 : (0 : Int) < (j : Int) + 1 := by omega
     go_wp2_with fail
     refine (item_full g h (5 + (k : Int)) at_ wr HN.out.codes (by omega)).mono ?_
     rintro e w3 ⟨r, E, he, hca, hap, hhi, hsl, hit⟩
     obtain ⟨x, hxr, hxe, hx⟩ : ∃ x : Itm, x.1 = r ∧ x.2.1 = E ∧ (x.1 = [] → DG (fun b => wr.heap.size ≤ b) w3 x.2) := by
      by_cases hr : r = []
      ·obtain ⟨ls, fs, hg⟩ := hit hr
       exact ⟨(r, E, ls, fs), rfl, rfl, fun _ => hg.dg HH.out (by omega) ha0 hhi.1 (by omega)⟩
      ·exact ⟨(r, E, [], []), rfl, rfl, fun h => absurd h hr⟩
     obtain ⟨a1, c1, We, hrun, hnew, hblk⟩ := HN.out.item HGW.out hap hca (by have := HQ.out; omega) x (by rw [hxe]; exact hsl) hx
     obtain ⟨⟨p4, n4, c4, h4⟩, p9, n9, c9, h9⟩ := hsl
     obtain ⟨x0, x1, x2, x3, lv, x5, x6, x7, x8, fv⟩ := E
     simp only at h4 h9 hhi
     subst h4 h9
     rw [hxr, hxe] at hrun hblk
     obtain rfl : e = .returned (.agg #[.string ⟨r.toArray⟩, .int .i64 x0, .int .i64 x1, .int .i64 x2, .int .i64 x3, .slice p4 n4 c4, .int .i64 x5, .int .i64 x6, .string ⟨x7.toArray⟩, .string ⟨x8.toArray⟩, .slice p9 n9 c9]) := he
     rw [show its.length = q from HQ.out] at hrun hnew
     have HNEW := Lib.hid hnew
     obtain ⟨W3, hW3⟩ : ∃ W3, w3.alloc (.cells #[.string ⟨r.toArray⟩, .int .i64 x0, .int .i64 x1, .int .i64 x2, .int .i64 x3, .slice p4 n4 c4, .int .i64 x5, .int .i64 x6, .string ⟨x7.toArray⟩, .string ⟨x8.toArray⟩, .slice p9 n9 c9] 66) = W3 := ⟨_, rfl⟩
     have s3 : W3.heap.size = w3.heap.size + 1 := by rw [← hW3]; exact Deep.nblk_alloc _ _
     have xx3 : W3.heap[w3.heap.size]? = some (.cells #[.string ⟨r.toArray⟩, .int .i64 x0, .int .i64 x1, .int .i64 x2, .int .i64 x3, .slice p4 n4 c4, .int .i64 x5, .int .i64 x6, .string ⟨x7.toArray⟩, .string ⟨x8.toArray⟩, .slice p9 n9 c9] 66 (0, 0)) := by rw [← hW3]; exact Deep.blk_alloc_new _ _
     have hrun' : (Builtin.append_ #[64, 64] 64 #[.slice aI q cI, .slice (some ⟨w3.heap.size + 1, 0, none⟩) 1 1]).run Tryz.prog (W3.alloc (.cells #[.string ⟨r.toArray⟩, .int .i64 x0, .int .i64 x1, .int .i64 x2, .int .i64 x3, .slice p4 n4 c4, .int .i64 x5, .int .i64 x6, .string ⟨x7.toArray⟩, .string ⟨x8.toArray⟩, .slice p9 n9 c9] 66)) = .ok (.slice a1 (q + 1) c1) We := by
      rw [← hW3]
      exact hrun
     have hc4 : We.cell? ⟨w3.heap.size, 4, none⟩ = some (.int .i64 x3) := by rw [Lib.cell_of_heap hblk]; rfl
     have hlw : w3.heap.size < We.heap.size := heap_lt hblk
     have HXX := Lib.hid xx3
     clear hrun hnew hblk hx hit hca hap xx3 hxr hxe
     go_wp2_with (first
      | (refine wpList_load_row rfl 66 _ rfl w3.heap.size rfl 66 #[.string ⟨r.toArray⟩, .int .i64 x0, .int .i64 x1, .int .i64 x2, .int .i64 x3, .slice p4 n4 c4, .int .i64 x5, .int .i64 x6, .string ⟨x7.toArray⟩, .string ⟨x8.toArray⟩, .slice p9 n9 c9] (0, 0) _ HXX.out HU.out rfl HIS.out ?_)
      | (at_builtin; refine wpList_append_run rfl _ _ _ rfl _ _ _ rfl rfl hrun' ?_))
     go_roundw
     case rel => exact ⟨x3, j, its ++ [x], rfl, by first | rfl | go_num, by rw [List.length_append, HQ.out]; simp only [List.length_cons, List.length_nil]; omega, by omega, by rw [List.length_append, HQ.out]; simp only [List.length_cons, List.length_nil]; push_cast; omega, HNEW⟩
     case measure => simp [intOf]
  ·have hkn' : ¬ (k : Int) ≤ (n : Int) := by omega
   go_wp2_with fail
   go_ret
   exact ⟨_, fls, rfl, HS1, by have := HFL.out; omega⟩
theorem FS.at_ {w W : World} {g : Nat} {fls : List (List Itm)} {fv : Value} (h : FS w g fls fv [] (.slice none 0 0) W) : ∃ a c, fv = .slice a fls.length c ∧ ∀ i (hi : i < fls.length), ∃ blk off ia ic, a = some ⟨blk, off, none⟩ ∧ W.cell? ⟨blk, off + i, none⟩ = some (.slice ia fls[i].length ic) ∧ fls[i].length ≤ 4 ∧
  ∀ j (hj : j < fls[i].length), ∃ ib io, ia = some ⟨ib, io, none⟩ ∧ W.rangeAt ib (io + j * 11) (itC fls[i][j].1 fls[i][j].2.1).toList ∧ fls[i][j].2.1.Sl ∧ (fls[i][j].1 = [] → DG (fun b => w.heap.size ≤ b) W fls[i][j].2) := by
 obtain ⟨F, h1, _, _, h4, _⟩ := h.mem
 obtain ⟨a, c, e1, _, hk⟩ := h4.rw (F := fun _ => True) (fun _ _ => trivial)
 refine ⟨a, c, e1, fun i hi => ?_⟩
 obtain ⟨blk, off, e2, hbl, _, hc⟩ := hk (by omega)
 obtain ⟨us, hul, hcell, v, rfl, ⟨ia, ic, e3, _, hk2⟩, hlen⟩ := hc i hi
 have c0 := hcell 0 (by decide)
 rw [Nat.mul_one, Nat.add_zero] at c0
 refine ⟨blk, off, ia, ic, e2, by rw [c0, e3]; rfl, hlen, fun j hj => ?_⟩
 obtain ⟨ib, io, e4, _, _, hc2⟩ := hk2 (by omega)
 obtain ⟨us, hul2, hcell2, hus, hsl, hdg⟩ := hc2 j hj
 refine ⟨ib, io, e4, fun m v hm => ?_, hsl, fun hr => (hdg hr).go ⟨Nat.le_refl _, fun b hb _ => ⟨(h1 b hb).1, rfl⟩⟩⟩
 rw [hus] at hul2 hcell2
 have hm11 : m < 11 := by rw [← hul2]; exact (List.getElem?_eq_some_iff.1 hm).1
 rw [hcell2 m hm11, hm]
end Go.Proofs.YtmpbjaodgajnfaaGreatDoor
namespace Go.Proofs.YtmpbjaodgajnfaaGreatDoor
open Go.RowKit
structure EVS (w : World) (g : Nat) (ds : List Evd) (v : Value) (W : World) : Prop where
 codes : CodesAt W g
 apart : Apart g w W
 row : OR w.heap.size 44 10 EvR W (ds.map (·.1)) v
 mem : ∀ d ∈ ds, DG (fun b => w.heap.size ≤ b) W d
theorem EVS.start {w : World} {g : Nat} (hc : CodesAt w g) : EVS w g [] (.slice none 0 0) w := ⟨hc, Apart.refl _ _, OR.nil, fun _ h => by cases h⟩
theorem EVS.go {w W W' : World} {g : Nat} {ds : List Evd} {v : Value} (h : EVS w g ds v W) (hg : g < w.heap.size) (ha : Apart g W W') (hc : CodesAt W' g) : EVS w g ds v W' :=
 ⟨hc, h.apart.trans ha, h.row.keep (fun k hk hl => ha.block (by omega) hl) (fun _ _ h => h), fun d hd => (h.mem d hd).go ⟨ha.1.size, fun k hk hl => ⟨hk, ha.block (by omega) hl⟩⟩⟩
theorem DG.ok {F : Nat → Prop} {W : World} {d : Evd} (h : DG F W d) : d.1.Ok := by
 obtain ⟨a, c, h1, _⟩ := h.lmem
 obtain ⟨a', c', h2, _⟩ := h.fmem
 exact ⟨by rw [h1]; rfl, by rw [h2]; rfl⟩
theorem EVS.ok {w W : World} {g : Nat} {ds : List Evd} {v : Value} (h : EVS w g ds v W) : ∀ x ∈ ds.map (·.1), x.Ok := fun x hx => by
 obtain ⟨d, hd, rfl⟩ := List.mem_map.1 hx
 exact (h.mem d hd).ok
theorem EVS.ins {w W W' : World} {g : Nat} {ds : List Evd} {v v' : Value} (h : EVS w g ds v W) (hg : g < w.heap.size) {d : Evd} (hd : DG (fun b => w.heap.size ≤ b) W d) {i : Nat} (ho : OR W.heap.size 44 10 EvR W' ((ds.map (·.1)).take i ++ d.1 :: (ds.map (·.1)).drop i) v') (hb : Below W.heap.size W W') :
  EVS w g (ds.take i ++ d :: ds.drop i) v' W' := by
 have h2 := h.go hg (Apart.of_below hb h.codes.1) (h.codes.below hb)
 have hsz := h.apart.1.size
 refine ⟨h2.codes, h2.apart, ?_, fun x hx => ?_⟩
 ·rw [List.map_append, List.map_cons, List.map_take, List.map_drop]
  exact ho.base hsz
 ·rcases List.mem_append.1 hx with hx | hx
  ·exact h2.mem x (List.mem_of_mem_take hx)
  ·rcases List.mem_cons.1 hx with rfl | hx
   ·exact hd.go ⟨hb.size, fun k hk hl => ⟨hk, hb.block k hl⟩⟩
   ·exact h2.mem x (List.mem_of_mem_drop hx)
def EventsP (g : Nat) (w : World) (e : Ending) (w' : World) : Prop := ∃ v ds, e = .returned v ∧ EVS w g ds v w' ∧ ds.length ≤ 24
theorem bytes_ne {a : UInt8} {t : List UInt8} : ((⟨(a :: t).toArray⟩ : ByteArray) == ⟨#[]⟩) = false := by
 show ((a :: t).toArray == #[]) = false
 rw [beq_eq_false_iff_ne]
 simp
set_option maxRecDepth 100000 in
set_option maxHeartbeats 16000000 in
theorem events_any (g : Nat) (w : World) (hc : CodesAt w g) : Calls Tryz.prog 8 #[.pointer (some ⟨g, 0, none⟩), .int .i64 4] w (EventsP g w) := by
 have HGW := Lib.hid hc.1
 have HL0 := Lib.hid (EVS.start hc)
 obtain ⟨fsv, hev9⟩ := undEv2
 have HU := Lib.hid hev9
 have HIS := Lib.hid (zero_of_info infoEv).2
 clear hc hev9
 go_enter Tryz.func8, Tryz.ntmps8
 go_wp2_with fail
 go_loopw [5, 6] (fun o i wr => ∃ (k : Nat) (ds : List Evd), i = .int .i64 ((k : Int) + 1) ∧ k ≤ 2 ∧ Hid (ds.length ≤ 12 * k) ∧ Hid (EVS w g ds o wr)) (fun _ i _ => 3 - (intOf i).toNat)
 case atStart => exact ⟨0, [], rfl, Nat.zero_le _, Lib.hid (Nat.le_refl _), HL0⟩
 case round =>
  obtain ⟨k, ds, rfl, hk, HDL, HS⟩ := hrel
  clear HL0
  go_wp2_with fail
  refine (next_any g 2 _ HS.out.codes (by omega) (by omega)).mono ?_
  rintro e w1 ⟨n, hn, rfl, hca, hap⟩
  have HS1 := Lib.hid (HS.out.go HGW.out hap hca)
  clear hca hap HS
  by_cases hkn : k ≤ n
  ·have hkn' : (k : Int) + 1 ≤ 1 + (n : Int) := by omega
   go_wp2_with fail
   refine (files_any g ((k : Int) + 1) _ HS1.out.codes (by omega)).mono ?_
   rintro e w2 ⟨fv, fls, rfl, HF, hfl⟩
   have HS2 := Lib.hid (HS1.out.go HGW.out HF.out.apart HF.out.codes)
   have HSZ : Hid (g < w1.heap.size ∧ w.heap.size ≤ w1.heap.size) := Lib.hid ⟨HS1.out.codes.1, HS1.out.apart.1.size⟩
   clear HS1
   obtain ⟨nf, hnf⟩ : ∃ q, fls.length = q := ⟨_, rfl⟩
   rw [hnf] at hfl
   have HNF := Lib.hid hnf
   clear hnf
   obtain ⟨fa, fc, hfv, _⟩ := HF.out.at_
   rw [HNF.out] at hfv
   subst hfv
   go_wp2_with fail
   go_loopw [5, 8] (fun o i wr => ∃ (p : Nat) (ds : List Evd), i = .int .i64 (p : Int) ∧ p ≤ nf ∧ Hid (ds.length ≤ 12 * k + 4 * p) ∧ Hid (EVS w g ds o wr) ∧ Hid (FS w1 g fls (.slice fa nf fc) [] (.slice none 0 0) wr)) (fun _ i _ => nf - (intOf i).toNat)
   case atStart => exact ⟨0, ds, rfl, Nat.zero_le _, HDL, HS2, HF⟩
   case round =>
    obtain ⟨p, ds2, rfl, hp, HDL2, HN, HFN⟩ := hrel
    clear HS2 HF HDL
    by_cases hlt : p < nf
    ·have hlt' : (p : Int) < (nf : Int) := by omega
     go_wp2_with fail
     go_loopw [5, 9] (fun o i wr => ∃ (q : Nat) (ds : List Evd), i = .int .i64 (q : Int) ∧ Hid (q ≤ (fls[p]'(by rw [HNF.out]; exact hlt)).length) ∧ Hid (ds.length ≤ 12 * k + 4 * p + q) ∧ Hid (EVS w g ds o wr) ∧ Hid (FS w1 g fls (.slice fa nf fc) [] (.slice none 0 0) wr)) (fun _ i _ => 4 - (intOf i).toNat)
     case atStart => exact ⟨0, ds2, rfl, Lib.hid (Nat.zero_le _), HDL2, HN, HFN⟩
     case round =>
      obtain ⟨q, ds3, rfl, HQL, HDL3, HM, HFM⟩ := hrel
      clear HN HFN HDL2
      obtain ⟨fa', fc', hfe, hat⟩ := HFM.out.at_
      injection hfe with e1 e2 e3
      subst e1 e3
      obtain ⟨blk, off, ia, ic, hfa, hc0, hl4, hitm⟩ := hat p (by rw [HNF.out]; exact hlt)
      clear hat
      subst hfa
      obtain ⟨m, hm⟩ : ∃ m, (fls[p]'(by rw [HNF.out]; exact hlt)).length = m := ⟨_, rfl⟩
      have HML := Lib.hid hm
      rw [hm] at hc0 hl4
      have hqm : q ≤ m := by rw [← hm]; exact HQL.out
      clear hm e2 HQL
      by_cases hqlt : q < m
      ·have hqlt' : (q : Int) < (m : Int) := by omega
       obtain ⟨ib, io, hia, hrg, hsl, hdg⟩ := hitm q (by rw [HML.out]; exact hqlt)
       clear hitm
       subst hia
       obtain ⟨x, hx⟩ : ∃ x, (fls[p]'(by rw [HNF.out]; exact hlt))[q]'(by rw [HML.out]; exact hqlt) = x := ⟨_, rfl⟩
       rw [hx] at hrg hsl hdg
       clear hx
       obtain ⟨r, ⟨x0, x1, x2, x3, lv, x5, x6, x7, x8, fv⟩, ls, fs⟩ := x
       obtain ⟨⟨p4, n4, c4, h4⟩, p9, n9, c9, h9⟩ := hsl
       simp only at h4 h9
       subst h4 h9
       have k0 : wr.cell? ⟨ib, io + q * 11, none⟩ = some (.string ⟨r.toArray⟩) := hrg 0 _ rfl
       cases r with
       | nil =>
        have hdd := (hdg rfl).go (F' := fun b => w.heap.size ≤ b) ⟨Nat.le_refl _, fun b hb _ => ⟨Nat.le_trans HSZ.out.2 hb, rfl⟩⟩
        have HRA : Hid (wr.rangeAt ib (io + q * 11 + 1) [.int .i64 x0, .int .i64 x1, .int .i64 x2, .int .i64 x3, .slice p4 n4 c4, .int .i64 x5, .int .i64 x6, .string ⟨x7.toArray⟩, .string ⟨x8.toArray⟩, .slice p9 n9 c9]) := Lib.hid (fun j v hv => by
         have := hrg (j + 1) v hv
         rwa [← Nat.add_assoc, Nat.add_right_comm] at this)
        have HI := Lib.hid (insert_any (ds3.map (·.1)) x0 x1 x2 x3 x5 x6 x7 x8 p4 p9 n4 c4 n9 c9 _ wr HM.out.row (by rw [List.length_map]; have := HDL3.out; omega) HM.out.ok)
        have HDD := Lib.hid hdd
        clear hdd hdg hrg
        go_wp2_with (first
         | (refine wpList_load_mid rfl 44 _ rfl ib (io + q * 11 + 1) rfl [.int .i64 x0, .int .i64 x1, .int .i64 x2, .int .i64 x3, .slice p4 n4 c4, .int .i64 x5, .int .i64 x6, .string ⟨x7.toArray⟩, .string ⟨x8.toArray⟩, .slice p9 n9 c9] _ HRA.out HU.out rfl HIS.out ?_)
         | fail)
        refine HI.out.mono ?_
        rintro e w3 ⟨i, v', hi, rfl, hor, hb⟩
        have HNEW := Lib.hid (HM.out.ins HGW.out HDD.out hor hb)
        have HFN := Lib.hid (HFM.out.go HSZ.out.1 (Apart.of_below hb HM.out.codes.1) HNEW.out.codes)
        have HLE : Hid ((ds3.take i ++ (((⟨x0, x1, x2, x3, .slice p4 n4 c4, x5, x6, x7, x8, .slice p9 n9 c9⟩ : Ev), ls, fs) : Evd) :: ds3.drop i).length ≤ 12 * k + 4 * p + (q + 1)) := Lib.hid (by
         rw [List.length_append, List.length_cons, List.length_take, List.length_drop]
         rw [List.length_map] at hi
         have := HDL3.out
         omega)
        clear hor hb hi HI
        go_wp2_with fail
        go_roundw
        case rel => exact ⟨q + 1, _, by go_num, Lib.hid (by rw [HML.out]; exact hqlt), HLE, HNEW, HFN⟩
        case measure => simp [intOf]; omega
       | cons a t =>
        have hne := bytes_ne (a := a) (t := t)
        clear hdg hrg
        go_wp2_with fail
        go_roundw
        case rel => exact ⟨q + 1, ds3, by go_num, Lib.hid (by rw [HML.out]; exact hqlt), Lib.hid (by have := HDL3.out; omega), HM, HFM⟩
        case measure => simp [intOf]; omega
      ·have hqlt' : ¬ (q : Int) < (m : Int) := by omega
       clear hitm
       go_wp2_with fail
       go_roundw
       case rel => exact ⟨p + 1, ds3, by go_num, by omega, Lib.hid (by have := HDL3.out; omega), HM, HFM⟩
       case measure => simp [intOf]; omega
    ·have hlt' : ¬ (p : Int) < (nf : Int) := by omega
     go_wp2_with fail
     go_roundw
     case rel => exact ⟨k + 1, ds2, by go_num, by omega, Lib.hid (by have := HDL2.out; omega), HN⟩
     case measure => simp [intOf]; omega
  ·have hkn' : ¬ (k : Int) + 1 ≤ 1 + (n : Int) := by omega
   go_wp2_with fail
   go_ret
   exact ⟨_, ds, rfl, HS1.out, by have := HDL.out; omega⟩
end Go.Proofs.YtmpbjaodgajnfaaGreatDoor
namespace Go.Proofs.YtmpbjaodgajnfaaGreatDoor
open Go.RowKit
theorem first_eqK {t : NT} {s : List UInt8} {a xe : Nat} {ms : List Mt.Mk} {b ye : Nat} {ns : List Mt.Mk} (h : FstM t s a xe ms) (h1 : ∀ k, k < b → Mt.matR s t false k = none) (h2 : Mt.matR s t false b = some (ye, ns)) : ms = ns := by
 obtain ⟨_, h3, h4⟩ := h
 have : a = b := by
  rcases Nat.lt_trichotomy a b with h | h | h
  ·rw [h1 _ h] at h4; cases h4
  ·exact h
  ·rw [h3 _ h] at h2; cases h2
 subst this
 rw [h4] at h2
 injection h2 with h2
 exact (Prod.mk.inj h2).2
theorem first_ge : ∀ (fs : List Fd) (t : List UInt8), ∃ i, i ≤ fs.length ∧ (∀ j (h : j < fs.length), j < i → Lib.compareBytes fs[j].1 t < 0) ∧ (∀ h : i < fs.length, 0 ≤ Lib.compareBytes fs[i].1 t)
 | [], t => ⟨0, Nat.le_refl _, fun j h => absurd h (by simp), fun h => absurd h (by simp)⟩
 | x :: fs, t => by
  by_cases hx : Lib.compareBytes x.1 t < 0
  ·obtain ⟨i, h1, h2, h3⟩ := first_ge fs t
   refine ⟨i + 1, by simpa using h1, fun j hj hi => ?_, fun h => ?_⟩
   ·cases j with
    | zero => exact hx
    | succ j => exact h2 j (by simpa using hj) (by omega)
   ·exact h3 (by simpa using h)
  ·exact ⟨0, Nat.zero_le _, fun j _ hj => absurd hj (by omega), fun _ => by simpa using hx⟩
theorem SeaP.of {fs : List Fd} (h : SrtF fs) (t : List UInt8) : ∃ i b, SeaP fs t i b := by
 obtain ⟨i, h1, h2, h3⟩ := first_ge fs t
 refine ⟨i, decide (∃ h : i < fs.length, Lib.compareBytes fs[i].1 t = 0), h1, h2, fun j hj hij => ?_, by simp⟩
 rcases Nat.lt_or_eq_of_le hij with hlt | heq
 ·have h4 := h i j (by omega) hj hlt
  have h5 := h3 (by omega)
  rcases (by omega : Lib.compareBytes fs[j].1 t < 0 ∨ 0 ≤ Lib.compareBytes fs[j].1 t) with h6 | h6
  ·have := cmp_trans _ _ _ h4 h6
   omega
  ·exact h6
 ·subst heq
  exact h3 hj
theorem SrtF.putF {fs : List Fd} (h : SrtF fs) (t v : List UInt8) : SrtF (putF fs t v) := by
 obtain ⟨i, b, hs⟩ := SeaP.of h t
 exact h.put hs v
theorem put_len {fs : List Fd} (h : SrtF fs) (t v : List UInt8) : fs.length ≤ (putF fs t v).length ∧ (putF fs t v).length ≤ fs.length + 1 := by
 obtain ⟨i, b, hs⟩ := SeaP.of h t
 exact hs.len v
theorem put_mem {fs : List Fd} (h : SrtF fs) (t v : List UInt8) : (t, v) ∈ putF fs t v := by
 obtain ⟨i, b, hs⟩ := SeaP.of h t
 cases b with
 | true =>
  obtain ⟨hi, he, hp⟩ := hs.yes v
  rw [hp, he]
  exact List.mem_set hi _
 | false =>
  rw [hs.no v]
  simp
theorem put_old {fs : List Fd} (h : SrtF fs) {t v : List UInt8} {x : Fd} (hx : x ∈ fs) (hn : x.1 ≠ t) : x ∈ putF fs t v := by
 obtain ⟨i, b, hs⟩ := SeaP.of h t
 cases b with
 | true =>
  obtain ⟨hi, he, hp⟩ := hs.yes v
  rw [hp]
  obtain ⟨j, hj, hjx⟩ := List.getElem_of_mem hx
  have hne : i ≠ j := fun e => hn (by subst e; rw [← hjx, he])
  have hj' : j < (fs.set i (fs[i].1, v)).length := by rw [List.length_set]; exact hj
  have h1 : (fs.set i (fs[i].1, v))[j] = x := by rw [List.getElem_set_ne hne, hjx]
  rw [← h1]
  exact List.getElem_mem hj'
 | false =>
  rw [hs.no v]
  have : x ∈ fs.take i ++ fs.drop i := by rw [List.take_append_drop]; exact hx
  rcases List.mem_append.1 this with h | h
  ·exact List.mem_append.2 (.inl h)
  ·exact List.mem_append.2 (.inr (List.mem_cons_of_mem _ h))
theorem put_from {fs : List Fd} (h : SrtF fs) {t v : List UInt8} {x : Fd} (hx : x ∈ putF fs t v) : x ∈ fs ∨ x = (t, v) := by
 obtain ⟨i, b, hs⟩ := SeaP.of h t
 cases b with
 | true =>
  obtain ⟨hi, he, hp⟩ := hs.yes v
  rw [hp, he] at hx
  rcases List.mem_or_eq_of_mem_set hx with h | h
  ·exact .inl h
  ·exact .inr h
 | false =>
  rw [hs.no v] at hx
  rcases List.mem_append.1 hx with h | h
  ·exact .inl (List.mem_of_mem_take h)
  ·rcases List.mem_cons.1 h with h | h
   ·exact .inr h
   ·exact .inl (List.mem_of_mem_drop h)
theorem put_id {fs : List Fd} (h : SrtF fs) {t v : List UInt8} (hx : (t, v) ∈ fs) : putF fs t v = fs := by
 obtain ⟨j, hj, hjx⟩ := List.getElem_of_mem hx
 have hlo : ∀ k (hk : k < fs.length), k < j → Lib.compareBytes fs[k].1 t < 0 := fun k hk hkj => by
  have := h k j hk hj hkj
  rwa [hjx] at this
 have h0 : Lib.compareBytes fs[j].1 t = 0 := by rw [hjx]; exact (cmp_zero _ _).2 rfl
 have hhi : ∀ k (hk : k < fs.length), j ≤ k → 0 ≤ Lib.compareBytes fs[k].1 t := fun k hk hkj => by
  rcases Nat.lt_or_eq_of_le hkj with hlt | heq
  ·have := h j k hj hk hlt
   rw [hjx] at this
   rw [cmp_swap]
   have h1 : Lib.compareBytes t fs[k].1 < 0 := this
   omega
  ·subst heq
   omega
 have hp := posF_eq fs t j (by omega) hlo hhi
 unfold Go.Proofs.YtmpbjaodgajnfaaGreatDoor.putF
 rw [hp, List.getElem?_eq_getElem hj, hjx, if_pos (show Option.map (fun x : Fd => x.1) (some (t, v)) = some t from rfl)]
 apply List.ext_getElem (by rw [List.length_set])
 intro k h1 h2
 rw [List.getElem_set]
 by_cases e : j = k
 ·subst e
  rw [if_pos rfl, hjx]
 ·rw [if_neg e]
theorem ext_srt (s : List UInt8) : ∀ (gs : List Grp) (fs : List Fd), SrtF fs → SrtF (extF s gs fs)
 | [], _, h => h
 | _ :: gs, _, h => ext_srt s gs _ (h.putF _ _)
theorem ext_len (s : List UInt8) : ∀ (gs : List Grp) (fs : List Fd), SrtF fs → fs.length ≤ (extF s gs fs).length ∧ (extF s gs fs).length ≤ fs.length + gs.length
 | [], _, _ => ⟨Nat.le_refl _, Nat.le_refl _⟩
 | g :: gs, fs, h => by
  have h1 := put_len h g.1 (cutG s g)
  have h2 := ext_len s gs _ (h.putF g.1 (cutG s g))
  rw [extF, List.length_cons]
  omega
theorem ext_old (s : List UInt8) : ∀ (gs : List Grp) (fs : List Fd), SrtF fs → ∀ x ∈ fs, (∀ g ∈ gs, x.1 ≠ g.1) → x ∈ extF s gs fs
 | [], _, _, _, hx, _ => hx
 | g :: gs, _, h, x, hx, hn => ext_old s gs _ (h.putF _ _) x (put_old h hx (hn g List.mem_cons_self)) fun g' hg => hn g' (List.mem_cons_of_mem _ hg)
theorem ext_mem (s : List UInt8) : ∀ (gs : List Grp) (fs : List Fd), SrtF fs → (gs.map (·.1)).Nodup → ∀ g ∈ gs, (g.1, cutG s g) ∈ extF s gs fs
 | [], _, _, _, g, hg => by cases hg
 | g :: gs, fs, h, hd, g', hg => by
  rw [List.map_cons, List.nodup_cons] at hd
  rw [extF]
  rcases List.mem_cons.1 hg with rfl | hg
  ·refine ext_old s gs _ (h.putF _ _) _ (put_mem h _ _) fun g'' hg'' e => hd.1 ?_
   rw [List.mem_map]
   exact ⟨g'', hg'', e.symm⟩
  ·exact ext_mem s gs _ (h.putF _ _) hd.2 g' hg
theorem ext_from (s : List UInt8) : ∀ (gs : List Grp) (fs : List Fd), SrtF fs → ∀ x ∈ extF s gs fs, x ∈ fs ∨ ∃ g ∈ gs, x = (g.1, cutG s g)
 | [], _, _, x, hx => .inl hx
 | g :: gs, fs, h, x, hx => by
  rcases ext_from s gs _ (h.putF _ _) x hx with h1 | ⟨g', hg, e⟩
  ·rcases put_from h h1 with h2 | h2
   ·exact .inl h2
   ·exact .inr ⟨g, List.mem_cons_self, h2⟩
  ·exact .inr ⟨g', List.mem_cons_of_mem _ hg, e⟩
theorem ext_id (s : List UInt8) : ∀ (gs : List Grp) (fs : List Fd), SrtF fs → (∀ g ∈ gs, (g.1, cutG s g) ∈ fs) → extF s gs fs = fs
 | [], _, _, _ => rfl
 | g :: gs, fs, h, hm => by
  rw [extF, put_id h (hm g List.mem_cons_self)]
  exact ext_id s gs fs h fun g' hg => hm g' (List.mem_cons_of_mem _ hg)
theorem ext_twice (s : List UInt8) (gs : List Grp) (fs : List Fd) (h : SrtF fs) (hd : (gs.map (·.1)).Nodup) : extF s gs (extF s gs fs) = extF s gs fs :=
 ext_id s gs _ (ext_srt s gs fs h) (ext_mem s gs fs h hd)
theorem capL_nodup {ns : List Mt.Nm} (h : ns.Nodup) (nm : Mt.Nm) : (Mt.capL ns nm).Nodup := by
 unfold Mt.capL
 split
 ·exact h
 ·rename_i hc
  rw [List.nodup_append]
  refine ⟨h, (by simp), fun a ha b hb e => ?_⟩
  rw [List.mem_singleton] at hb
  subst hb e
  exact hc (by simpa using ha)
theorem timesN_nodup {fn : List Mt.Nm → List Mt.Nm} (hf : ∀ ns, ns.Nodup → (fn ns).Nodup) : ∀ n ns, ns.Nodup → (Mt.timesN fn n ns).Nodup
 | 0, _, h => h
 | n + 1, ns, h => timesN_nodup hf n _ (hf ns h)
mutual
theorem capsN_nodup : ∀ (t : NT) (ns : List Mt.Nm), ns.Nodup → (Mt.capsN t ns).Nodup
 | .node op rs nm kids mn mx, ns, h => by
  rw [Mt.capsN]
  split
  ·exact capsL_nodup kids _ (capL_nodup h nm)
  ·exact capsL_nodup kids _ h
theorem capsL_nodup : ∀ (ks : List NT) (ns : List Mt.Nm), ns.Nodup → (Mt.capsL ks ns).Nodup
 | [], ns, h => by rw [Mt.capsL]; exact h
 | k :: ks, ns, h => by rw [Mt.capsL]; exact capsL_nodup ks _ (capsN_nodup k ns h)
end
mutual
theorem nsN_nodup : ∀ (t : NT) (ns : List Mt.Nm), ns.Nodup → (Mt.nsN t ns).Nodup
 | .node op rs nm kids mn mx, ns, h => by
  have hH := nsH_nodup kids
  have hL := nsL_nodup kids
  rw [Mt.nsN]
  split
  ·exact h
  split
  ·exact h
  split
  ·exact h
  split
  ·exact hL _ h
  split
  ·exact hL _ h
  split
  ·exact hH _ (capL_nodup h nm)
  split
  ·split
   ·exact capsL_nodup _ _ h
   ·split
    ·exact hH _ (timesN_nodup hH _ _ h)
    ·exact timesN_nodup hH _ _ (timesN_nodup hH _ _ h)
  ·exact h
theorem nsH_nodup : ∀ (ks : List NT) (ns : List Mt.Nm), ns.Nodup → (Mt.nsH ks ns).Nodup
 | [], ns, h => by rw [Mt.nsH]; exact h
 | k :: _, ns, h => by rw [Mt.nsH]; exact nsN_nodup k ns h
theorem nsL_nodup : ∀ (ks : List NT) (ns : List Mt.Nm), ns.Nodup → (Mt.nsL ks ns).Nodup
 | [], ns, h => by rw [Mt.nsL]; exact h
 | k :: ks, ns, h => by rw [Mt.nsL]; exact nsL_nodup ks _ (nsN_nodup k ns h)
end
theorem grpK_nodup {ms : List Mt.Mk} {ns : List Mt.Nm} (h : ns.Nodup) : ∀ k, k ≤ ns.length → ((grpK ms ns k).map (·.1)).Nodup
 | 0, _ => by rw [grpK]; exact List.nodup_nil
 | k + 1, hk => by
  rw [grpK, List.map_append, List.nodup_append]
  refine ⟨grpK_nodup h k (by omega), ?_, fun a ha b hb e => ?_⟩
  ·split
   ·exact (by simp)
   ·exact List.nodup_nil
  ·split at hb
   ·simp only [List.map_cons, List.map_nil, List.mem_singleton] at hb
    subst e
    rw [List.mem_map] at ha
    obtain ⟨g, hg, rfl⟩ := ha
    obtain ⟨i, x, y, hi, _, _, rfl⟩ := grpK_mem hg
    have hi' : i < ns.length := by omega
    have hk' : k < ns.length := by omega
    rw [List.getD_eq_getElem?_getD, List.getD_eq_getElem?_getD, List.getElem?_eq_getElem hi', List.getElem?_eq_getElem hk'] at hb
    simp only [Option.getD_some] at hb
    exact List.pairwise_iff_getElem.1 h i k hi' hk' hi hb
   ·simp at hb
theorem mgrp_nodup (t : NT) (ms : List Mt.Mk) : ((mgrp t ms).map (·.1)).Nodup := by
 unfold mgrp
 exact ((srtG_perm _).map (·.1)).nodup_iff.2 (grpK_nodup (nsN_nodup t [] List.nodup_nil) _ (Nat.le_refl _))
theorem fld_twice {t : NT} {s : List UInt8} {fs fs' fs'' : List Fd} (h : SrtF fs) (hl : fs.length + (Mt.nsN t []).length ≤ 32) (h1 : FldR t s fs fs') (h2 : FldR t s fs' fs'') : fs'' = fs' := by
 have hgl : ∀ ms, (mgrp t ms).length ≤ (Mt.nsN t []).length := fun ms => by
  rw [mgrp_len]
  unfold Mt.cntM
  exact Nat.le_trans (List.length_filter_le _ _) (by rw [List.length_range]; exact Nat.le_refl _)
 rcases h1 with ⟨a, xe, ms, k1, k2, k3, k4⟩ | ⟨k1, k2⟩
 ·rw [if_pos (by have := (ext_len s (mgrp t ms) fs h).2; have := hgl ms; omega)] at k4
  rcases h2 with ⟨b, ye, ns, j1, j2, j3, j4⟩ | ⟨j1, _⟩
  ·have : ms = ns := first_eqK ⟨k1, k2, k3⟩ j2 j3
   subst this
   rw [k4] at j4 ⊢
   rw [ext_twice s _ fs h (mgrp_nodup t ms)] at j4
   rw [j4]
   split <;> rfl
  ·rw [j1 a k1] at k3
   cases k3
 ·rcases h2 with ⟨b, ye, ns, j1, j2, j3, _⟩ | ⟨_, j2⟩
  ·rw [k1 b j1] at j3
   cases j3
  ·exact j2
end Go.Proofs.YtmpbjaodgajnfaaGreatDoor
namespace Go.Proofs.YtmpbjaodgajnfaaGreatDoor
open Go.RowKit
theorem rngs_step (f : Nat → Bool) (lo hi k : Nat) (h0 : k ≤ lo) (h : lo ≤ hi) (h2 : hi < 255) (hno : ∀ j, k ≤ j → j < lo → f j = false) (hin : ∀ j, lo ≤ j → j ≤ hi → f j = true) (hend : f (hi + 1) = false) : rngs f k = (UInt8.ofNat lo, UInt8.ofNat hi) :: rngs f (hi + 1) := by
 rw [rngs_skip f lo (by omega) k h0 hno, rngs_on f lo (by omega) (hin lo (Nat.le_refl _) h), runTo_all f hi (by omega) (fun _ => hend) lo h (fun j h3 h4 => hin j (by omega) h4)]
theorem cls_d : clsT Asc.isDigit = .node 1 [(48, 57)] [] [] 0 0 := by unfold clsT; rw [rngs_d]
theorem cls_b (c : UInt8) : clsT (spanF c.toNat (c.toNat + 1)) = .node 1 [(c, c)] [] [] 0 0 := by
 unfold clsT
 rw [rngs_c]
end Go.Proofs.YtmpbjaodgajnfaaGreatDoor
namespace Go.Proofs.YtmpbjaodgajnfaaGreatDoor
open Go.RowKit
theorem rngs_az : rngs (fun c => (fun _ => false) c || spanF 97 123 c) 0 = [(97, 122)] := rngs_one _ 97 122 (by omega) (by omega) (fun j _ => by unfold spanF; simp; omega)
theorem rngs_dot : rngs (fun c => !spanF 10 11 c) 0 = [(0, 9), (11, 255)] := by
 have h1 : ∀ j, j < 10 → (fun c => !spanF 10 11 c) j = true := fun j h => by unfold spanF; simp; omega
 have h2 : ∀ j, 10 < j → (fun c => !spanF 10 11 c) j = true := fun j h => by unfold spanF; simp; omega
 have h3 : (fun c => !spanF 10 11 c) 10 = false := by unfold spanF; simp
 rw [rngs_step _ 0 9 0 (by omega) (by omega) (by omega) (fun j _ _ => by omega) (fun j _ h => h1 j (by omega)) h3, rngs_skip _ 11 (by omega) _ (by omega) (fun j k1 k2 => by
  obtain rfl : j = 10 := by omega
  exact h3), rngs_on _ 11 (by omega) (h2 11 (by omega)), runTo_all _ 255 (by omega) (fun h => by omega) 11 (by omega) (fun j k1 _ => h2 j (by omega)), rngs, dif_neg (by omega)]
 rfl
theorem cls_az : clsT (fun c => (fun _ => false) c || spanF 97 123 c) = .node 1 [(97, 122)] [] [] 0 0 := by unfold clsT; rw [rngs_az]
theorem cls_dot : clsT (fun c => !spanF 10 11 c) = .node 1 [(0, 9), (11, 255)] [] [] 0 0 := by unfold clsT; rw [rngs_dot]
def byT (c : UInt8) : NT := .node 1 [(c, c)] [] [] 0 0
theorem cls_byT (c : UInt8) : clsT (spanF c.toNat (c.toNat + 1)) = byT c := cls_b c
def exS : Nat → List UInt8
 | 0 => [40, 109, 115, 58, 92, 100, 43, 41]
 | 1 => [40, 117, 115, 101, 114, 58, 91, 97, 45, 122, 93, 43, 41, 95, 40, 99, 111, 100, 101, 58, 92, 100, 41]
 | 2 => [120]
 | 3 => [40, 108, 101, 118, 101, 108, 58, 103, 101, 116, 124, 119, 97, 114, 110, 41]
 | 4 => [40, 108, 101, 118, 101, 108, 58, 101, 40, 99, 111, 100, 101, 58, 114, 43, 41, 111, 41]
 | 5 => []
 | _ => [94, 40, 109, 115, 58, 46, 42, 41, 36]
def nMs : List UInt8 := [109, 115]
def nUser : List UInt8 := [117, 115, 101, 114]
def nCode : List UInt8 := [99, 111, 100, 101]
def nLevel : List UInt8 := [108, 101, 118, 101, 108]
def exT : Nat → NT
 | 0 => .node 5 [] nMs [.node 4 [] [] [.node 1 [(48, 57)] [] [] 0 0] 1 (-1)] 0 0
 | 1 => .node 2 [] [] [.node 5 [] nUser [.node 4 [] [] [.node 1 [(97, 122)] [] [] 0 0] 1 (-1)] 0 0, byT 95, .node 5 [] nCode [.node 1 [(48, 57)] [] [] 0 0] 0 0] 0 0
 | 2 => byT 120
 | 3 => .node 5 [] nLevel [.node 3 [] [] [.node 2 [] [] [byT 103, byT 101, byT 116] 0 0, .node 2 [] [] [byT 119, byT 97, byT 114, byT 110] 0 0] 0 0] 0 0
 | 4 => .node 5 [] nLevel [.node 2 [] [] [byT 101, .node 5 [] nCode [.node 4 [] [] [byT 114] 1 (-1)] 0 0, byT 111] 0 0] 0 0
 | 5 => .node 0 [] [] [] 0 0
 | _ => .node 2 [] [] [.node 6 [] [] [] 0 0, .node 5 [] nMs [.node 4 [] [] [.node 1 [(0, 9), (11, 255)] [] [] 0 0] 0 (-1)] 0 0, .node 7 [] [] [] 0 0] 0 0
theorem seven {k : Nat} (h : k < 7) : k = 0 ∨ k = 1 ∨ k = 2 ∨ k = 3 ∨ k = 4 ∨ k = 5 ∨ k = 6 := by omega
theorem ex_cost : ∀ k, k < 7 → Mt.costN (exT k) ≤ 4000 := by
 intro k hk
 obtain rfl | rfl | rfl | rfl | rfl | rfl | rfl := seven hk
 all_goals decide
theorem ex_ns : ∀ k, k < 7 → (Mt.nsN (exT k) []).length ≤ 2 ∧ ∀ n ∈ Mt.nsN (exT k) [], n = nMs ∨ n = nUser ∨ n = nCode ∨ n = nLevel := by
 intro k hk
 obtain rfl | rfl | rfl | rfl | rfl | rfl | rfl := seven hk
 ·have h : Mt.nsN (exT 0) [] = [nMs] := by rfl
  rw [h]; simp
 ·have h : Mt.nsN (exT 1) [] = [nUser, nCode] := by rfl
  rw [h]; simp
 ·have h : Mt.nsN (exT 2) [] = [] := by rfl
  rw [h]; simp
 ·have h : Mt.nsN (exT 3) [] = [nLevel] := by rfl
  rw [h]; simp
 ·have h : Mt.nsN (exT 4) [] = [nLevel, nCode] := by rfl
  rw [h]; simp
 ·have h : Mt.nsN (exT 5) [] = [] := by rfl
  rw [h]; simp
 ·have h : Mt.nsN (exT 6) [] = [nMs] := by rfl
  rw [h]; simp
theorem ex_ck : ∀ k, k < 7 → ckE (exT k) = 0 := by
 have hs : ∀ (x y : UInt8), x.toNat ≤ y.toNat → srtB [(x, y)] = true := fun x y h => srtB_yes ⟨by simp, fun i hi => by
  obtain rfl : i = 0 := by simpa using hi
  unfold okR
  simp
  exact h⟩
 have hs2 : srtB [(0, 9), (11, 255)] = true := srtB_yes ⟨by simp, fun i hi => by
  have hi' : i < 2 := by simpa using hi
  obtain rfl | rfl : i = 0 ∨ i = 1 := by omega
  all_goals
   unfold okR
   simp⟩
 have hb : ∀ c : UInt8, srtB [(c, c)] = true := fun c => hs c c (Nat.le_refl _)
 have hn1 : nmB nMs = true := nmB_yes ⟨by decide, by decide, by decide, by decide⟩
 have hn2 : nmB nUser = true := nmB_yes ⟨by decide, by decide, by decide, by decide⟩
 have hn3 : nmB nCode = true := nmB_yes ⟨by decide, by decide, by decide, by decide⟩
 have hn4 : nmB nLevel = true := nmB_yes ⟨by decide, by decide, by decide, by decide⟩
 have hd1 : ∀ n : List UInt8, ¬ Dup [n] := fun n => by
  rintro ⟨i, hi, hm⟩
  obtain rfl : i = 0 := by simpa using hi
  simp at hm
 have hd0 : ¬ Dup [] := by
  rintro ⟨i, hi, hm⟩
  simp at hi
 have hd2 : ∀ n m : List UInt8, n ≠ m → ¬ Dup [n, m] := fun n m hne => by
  rintro ⟨i, hi, hm⟩
  have hi' : i < 2 := by simpa using hi
  obtain rfl | rfl : i = 0 ∨ i = 1 := by omega
  ·simp at hm
  ·simp at hm
   exact hne hm.symm
 intro k hk
 obtain rfl | rfl | rfl | rfl | rfl | rfl | rfl := seven hk
 ·have hck : ckN (exT 0) 0 0 [] = (3, [nMs], 0) := by
   unfold exT
   simp [ckN, ckNs, shE, shpB, badR, hs, hn1]
  exact (ckE_of hck).2.2.2 rfl (hd1 _) (by simp)
 ·have hck : ckN (exT 1) 0 0 [] = (7, [nUser, nCode], 0) := by
   unfold exT byT
   simp [ckN, ckNs, shE, shpB, badR, hs, hn2, hn3]
  exact (ckE_of hck).2.2.2 rfl (hd2 _ _ (by decide)) (by simp)
 ·have hck : ckN (exT 2) 0 0 [] = (1, [], 0) := by
   unfold exT byT
   simp [ckN, ckNs, shE, shpB, badR, hb]
  exact (ckE_of hck).2.2.2 rfl hd0 (by simp)
 ·have hck : ckN (exT 3) 0 0 [] = (11, [nLevel], 0) := by
   unfold exT byT
   simp [ckN, ckNs, shE, shpB, badR, hb, hn4]
  exact (ckE_of hck).2.2.2 rfl (hd1 _) (by simp)
 ·have hck : ckN (exT 4) 0 0 [] = (7, [nLevel, nCode], 0) := by
   unfold exT byT
   simp [ckN, ckNs, shE, shpB, badR, hb, hn3, hn4]
  exact (ckE_of hck).2.2.2 rfl (hd2 _ _ (by decide)) (by simp)
 ·have hck : ckN (exT 5) 0 0 [] = (1, [], 0) := by
   unfold exT
   simp [ckN, ckNs, shE, shpB, badR]
  exact (ckE_of hck).2.2.2 rfl hd0 (by simp)
 ·have hck : ckN (exT 6) 0 0 [] = (6, [nMs], 0) := by
   unfold exT
   simp [ckN, ckNs, shE, shpB, badR, hs2, hn1]
  exact (ckE_of hck).2.2.2 rfl (hd1 _) (by simp)
theorem ex_cho0 : choM (exS 0) 9 0 = .ok (.node 5 [] nMs [.node 4 [] [] [clsT Asc.isDigit] 1 (-1)] 0 0, 8) := by rfl
theorem ex_cho1 : choM (exS 1) 24 0 = .ok (.node 2 [] [] [.node 5 [] nUser [.node 4 [] [] [clsT (fun c => (fun _ => false) c || spanF 97 123 c)] 1 (-1)] 0 0, clsT (spanF (95 : UInt8).toNat ((95 : UInt8).toNat + 1)), .node 5 [] nCode [clsT Asc.isDigit] 0 0] 0 0, 23) := by rfl
theorem ex_cho2 : choM (exS 2) 2 0 = .ok (clsT (spanF (120 : UInt8).toNat ((120 : UInt8).toNat + 1)), 1) := by rfl
def spB (c : UInt8) : NT := clsT (spanF c.toNat (c.toNat + 1))
theorem spB_eq (c : UInt8) : spB c = byT c := cls_b c
theorem ex_cho3 : choM (exS 3) 17 0 = .ok (.node 5 [] nLevel [.node 3 [] [] [.node 2 [] [] [spB 103, spB 101, spB 116] 0 0, .node 2 [] [] [spB 119, spB 97, spB 114, spB 110] 0 0] 0 0] 0 0, 16) := by rfl
theorem ex_cho4 : choM (exS 4) 20 0 = .ok (.node 5 [] nLevel [.node 2 [] [] [spB 101, .node 5 [] nCode [.node 4 [] [] [spB 114] 1 (-1)] 0 0, spB 111] 0 0] 0 0, 19) := by rfl
theorem ex_cho5 : choM (exS 5) 1 0 = .ok (.node 0 [] [] [] 0 0, 0) := by rfl
theorem ex_cho6 : choM (exS 6) 10 0 = .ok (.node 2 [] [] [.node 6 [] [] [] 0 0, .node 5 [] nMs [.node 4 [] [] [clsT (fun c => !spanF 10 11 c)] 0 (-1)] 0 0, .node 7 [] [] [] 0 0] 0 0, 9) := by rfl
theorem par_of {l : List UInt8} {u t : NT} (h : choM l (l.length + 1) 0 = .ok (u, l.length)) (hu : u = t) (hl : l.length ≤ 400) (hc : ckE t = 0) : parM l = (some t, l.length, 0) := by
 subst hu
 unfold parM
 rw [if_neg (by omega), h]
 simp only
 rw [if_neg (by simp), if_pos hc]
theorem ex_par : ∀ k, k < 7 → parM (exS k) = (some (exT k), (exS k).length, 0) := by
 intro k hk
 have hc := ex_ck k hk
 obtain rfl | rfl | rfl | rfl | rfl | rfl | rfl := seven hk
 ·exact par_of ex_cho0 (by rw [cls_d]; rfl) (by decide) hc
 ·exact par_of ex_cho1 (by rw [cls_d, cls_az, cls_byT]; rfl) (by decide) hc
 ·exact par_of ex_cho2 (by rw [cls_byT]; rfl) (by decide) hc
 ·exact par_of ex_cho3 (by simp only [spB_eq]; rfl) (by decide) hc
 ·exact par_of ex_cho4 (by simp only [spB_eq]; rfl) (by decide) hc
 ·exact par_of ex_cho5 rfl (by decide) hc
 ·exact par_of ex_cho6 (by rw [cls_dot]; rfl) (by decide) hc
theorem mgrp_name {t : NT} {ms : List Mt.Mk} {g : Grp} (h : g ∈ mgrp t ms) : g.1 ∈ Mt.nsN t [] := by
 unfold mgrp at h
 obtain ⟨i, x, y, hi, _, _, rfl⟩ := grpK_mem ((srtG_perm _).mem_iff.1 h)
 rw [List.getD_eq_getElem?_getD, List.getElem?_eq_getElem hi]
 exact List.getElem_mem hi
end Go.Proofs.YtmpbjaodgajnfaaGreatDoor
namespace Go.Proofs.YtmpbjaodgajnfaaGreatDoor
open Go.RowKit Go.Lib
section
variable {P : Program}
theorem wpl_copy_run (w : World) {ops : Array Oper} {rest : List Oper} {o : Oper} {a : Act} {Q : Exit → Act → World → Prop} (hgd : o.guard = none) (d s : Operand) (t t' : TypeId)
  (ho : o.op = .call { callee := .builtin .copy, args := #[d, s], argTypes := #[t, t'] }) (v u : Value) (hd : a.eval d = v) (hs : a.eval s = u) {v' : Value} {w' : World}
  (hr : (Builtin.copy_ #[t, t'] o.type #[v, u]).run P w = .ok v' w') (h : wpList P ops Q rest (a.put o.dst v') w') : wpList P ops Q (o :: rest) a w :=
 wpList_plain hgd fun K hK => by
  unfold Oper.wp execOp
  simp only [ho, resolve, invoke, builtin, Sem.run_bind, Sem.run_pure, Result.andThen_ok, List.map_toArray, List.map_cons, List.map_nil, hd, hs, hr]
  exact hK _ _ h
theorem step_copy_run {ops : Array Oper} {o : Oper} {a : Act} {w : World} {K : Act → World → Prop} {Q : Exit → Act → World → Prop} {E : Prop}
  (hg : o.guard = none) (d x : Operand) (dT sT : TypeId) (hop : o.op = Op.call { callee := Callee.builtin Builtin.copy, args := #[d, x], argTypes := #[dT, sT] })
  (v u : Value) (hd : a.eval d = v) (hx : a.eval x = u) {v' : Value} {w' : World} (hr : (Builtin.copy_ #[dT, sT] o.type #[v, u]).run P w = .ok v' w') (hK : K (a.put o.dst v') w') :
  if Region.wanted o (yielded ops a.tmps) = true then Oper.wp P o a w K Q else E := by
 have hw : Region.wanted o (yielded ops a.tmps) = true := by simp [Region.wanted, hg]
 rw [if_pos hw]
 unfold Oper.wp
 simp [execOp, hop, resolve, invoke, builtin, hd, hx, hr, Result.andThen]
 exact hK
theorem run_copy_k (k : Nat) (w : World) (dT sT ty elem : TypeId) (b o dLen dCap : Nat) (a : Addr) (sLen sCap : Nat) (cs : List Value)
  (hu : P.underlying dT = some (.slice elem)) (hs : (P.info? elem).map (·.size) = some k) (hn : cs.length = Nat.min sLen dLen * k)
  (hsrc : ∀ j v, cs[j]? = some v → w.cell? (a.add j) = some v) (hc : ∀ j, j < cs.length → (w.cell? ⟨b, o + j, none⟩).isSome = true) (hf : ∀ j, j < cs.length → w.frozen? ⟨b, o + j, none⟩ = false) (h1 : ∀ v ∈ cs, v.oneCell' = true) :
  (Builtin.copy_ #[dT, sT] ty #[.slice (some ⟨b, o, none⟩) dLen dCap, .slice (some a) sLen sCap]).run P w = .ok (goInt (Nat.min sLen dLen)) (w.setCells b o cs) := by
 have hl := run_loadCells_list (P := P) w a cs hsrc
 have hst := run_storeCells_cells (P := P) b o cs 0 w (by simpa using hc) (by simpa using hf) h1
 cases hq : P.info? elem with
 | none => simp [hq] at hs
 | some i =>
  have hi : i.size = k := by simpa [hq] using hs
  simp [Builtin.copy_, run_underlying hu, Builtin.lenOf, Builtin.firstCells, sizeOf, typeInfo, hq, hi, ← hn, hl, hst]
end
theorem setCells_at (b : Nat) (t : TypeId) (fr : Nat × Nat) : ∀ (vs : List Value) (o : Nat) (W : World) (cs : Array Value), W.heap[b]? = some (.cells cs t fr) →
  (∃ cs', (W.setCells b o vs).heap[b]? = some (.cells cs' t fr) ∧ cs'.size = cs.size ∧ ∀ k, cs'[k]? = if o ≤ k ∧ k < o + vs.length ∧ k < cs.size then vs[k - o]? else cs[k]?) ∧ (∀ k, k ≠ b → (W.setCells b o vs).heap[k]? = W.heap[k]?) ∧ (W.setCells b o vs).heap.size = W.heap.size ∧ Below b W (W.setCells b o vs)
 | [], o, W, cs, h => ⟨⟨cs, h, rfl, fun k => by rw [if_neg (by simp; omega)]⟩, fun _ _ => rfl, rfl, Below.refl _ _⟩
 | v :: vs, o, W, cs, h => by
  rw [World.setCells]
  have h1 := set_at h o v
  obtain ⟨⟨cs', e1, e2, e3⟩, e4, e5, e6⟩ := setCells_at b t fr vs (o + 1) (W.setCell ⟨b, o, none⟩ v) _ h1
  have hb1 : Below b W (W.setCell ⟨b, o, none⟩ v) := (Below.refl b W).setCell (p := ⟨b, o, none⟩) (Nat.le_refl _) _
  refine ⟨⟨cs', e1, by rw [e2, Array.size_setIfInBounds], fun k => ?_⟩, fun k hk => (e4 k hk).trans (Deep.blk_setCell_other _ _ _ _ hk), by rw [e5, World.size_setCell], hb1.trans e6⟩
  rw [e3 k, Array.size_setIfInBounds, Array.getElem?_setIfInBounds]
  by_cases hk : o = k
  ·subst hk
   rw [if_neg (by omega)]
   by_cases hs : o < cs.size
   ·rw [if_pos rfl, if_pos hs, if_pos (by simp; omega)]
    simp
   ·rw [if_pos rfl, if_neg hs, if_neg (by omega), Array.getElem?_eq_none (by omega)]
  ·rw [if_neg hk]
   by_cases hin : o + 1 ≤ k ∧ k < o + 1 + vs.length ∧ k < cs.size
   ·rw [if_pos hin, if_pos (by simp; omega), show k - o = (k - (o + 1)) + 1 by omega, List.getElem?_cons_succ]
   ·rw [if_neg hin, if_neg (by simp; omega)]
theorem fcl_app (a b : List Fd) : fcl (a ++ b) = fcl a ++ fcl b := by unfold fcl; rw [List.map_append, List.flatten_append]
theorem fcl_take (fs : List Fd) (i : Nat) (h : i ≤ fs.length) : fcl (fs.take i) = (fcl fs).take (i * 2) := by
 have h1 : fcl fs = fcl (fs.take i) ++ fcl (fs.drop i) := by rw [← fcl_app, List.take_append_drop]
 have h2 : (fcl (fs.take i)).length = i * 2 := by rw [fcl_len, List.length_take, Nat.min_eq_left h]
 have e : (fcl fs).take (i * 2) = (fcl (fs.take i) ++ fcl (fs.drop i)).take (i * 2) := by rw [← h1]
 rw [e, ← h2, List.take_left']
 rfl
theorem fcl_drop (fs : List Fd) (i : Nat) (h : i ≤ fs.length) : fcl (fs.drop i) = (fcl fs).drop (i * 2) := by
 have h1 : fcl fs = fcl (fs.take i) ++ fcl (fs.drop i) := by rw [← fcl_app, List.take_append_drop]
 have h2 : (fcl (fs.take i)).length = i * 2 := by rw [fcl_len, List.length_take, Nat.min_eq_left h]
 have e : (fcl fs).drop (i * 2) = (fcl (fs.take i) ++ fcl (fs.drop i)).drop (i * 2) := by rw [← h1]
 rw [e, ← h2, List.drop_left']
 rfl
theorem fcl_ins (fs : List Fd) (x : Fd) (i : Nat) (h : i ≤ fs.length) (k : Nat) : (fcl (fs.take i ++ x :: fs.drop i))[k]? = if k < i * 2 then (fcl fs)[k]? else if k < (i + 1) * 2 then (encFd x)[k - i * 2]? else (fcl fs)[k - 2]? := by
 have h1 : fcl (fs.take i ++ x :: fs.drop i) = (fcl fs).take (i * 2) ++ (encFd x ++ (fcl fs).drop (i * 2)) := by
  rw [fcl_app, fcl_take fs i h, ← fcl_drop fs i h]
  rfl
 have h2 : ((fcl fs).take (i * 2)).length = i * 2 := by rw [List.length_take, fcl_len]; omega
 have h3 : (encFd x).length = 2 := rfl
 rw [h1]
 by_cases c1 : k < i * 2
 ·rw [if_pos c1, List.getElem?_append_left (by omega), List.getElem?_take_of_lt c1]
 ·rw [if_neg c1, List.getElem?_append_right (by omega), h2]
  by_cases c2 : k < (i + 1) * 2
  ·rw [if_pos c2, List.getElem?_append_left (by omega)]
  ·rw [if_neg c2, List.getElem?_append_right (by omega), List.getElem?_drop, h3]
   congr 1
   omega
def InsP (B : Nat) (fs : List Fd) (fv : Value) (x : Fd) (i : Nat) (w : World) (e : Ending) (w' : World) : Prop := ∃ v, e = .returned v ∧ OR B 52 2 FdR w' (fs.take i ++ x :: fs.drop i) v ∧ Below B w w' ∧ ∀ k, k < w.heap.size → fv.ownBlock ≠ some k → w'.heap[k]? = w.heap[k]?
set_option maxHeartbeats 4000000 in
set_option maxRecDepth 1000000 in
theorem ins_grow {B : Nat} (fs : List Fd) (x : Fd) (g n i q : Nat) (cur : Array Value) (w : World) (hn : fs.length = n) (hg : w.heap[g]? = some (.cells cur 52 (0, 0))) (hcur : cur.toList.take (n * 2) = fcl fs)
  (hx : w.heap[q]? = some (.cells #[.string ⟨x.1.toArray⟩, .string ⟨x.2.toArray⟩] 52 (0, 0))) (hB : B ≤ w.heap.size) (hn1 : n ≤ 1000) (hi : i < n) :
  Calls Tryz.prog 35 #[.slice (some ⟨g, 0, none⟩) n n, .int .i64 (i : Int), .slice (some ⟨q, 0, none⟩) 1 1] w (InsP B fs (.slice (some ⟨g, 0, none⟩) n n) x i w) := by
 obtain ⟨i0, hi0, hz0, hz1, hz2⟩ := info_parts infoFd
 have hsz : (Tryz.prog.info? 52).map (·.size) = some 2 := by rw [hi0]; simp [hz1]
 have hfl : (fcl fs).length = n * 2 := by rw [fcl_len, hn]
 have hgl := heap_lt hg
 have hql := heap_lt hx
 have hcs : ∀ j v, (fcl fs)[j]? = some v → w.cell? ⟨g, j, none⟩ = some v := fun j v hj => by
  rw [Lib.cell_of_heap hg, ← Array.getElem?_toList]
  rw [← hcur] at hj
  rw [List.getElem?_take] at hj
  split at hj
  ·exact hj
  ·cases hj
 have hold : (Builtin.firstCells i0.size i (.slice (some ⟨g, 0, none⟩) i n)).run Tryz.prog w.drew = .ok ((fcl fs).take (i * 2)).toArray w.drew := by
  rw [hz1]
  exact run_firstCells_some w.drew 2 i ⟨g, 0, none⟩ i n ((fcl fs).take (i * 2)) (by rw [List.length_take, hfl]; omega) (fun j v hj => by
   rw [addp, Nat.zero_add]
   rw [List.getElem?_take] at hj
   split at hj
   ·exact hcs j v hj
   ·cases hj)
 have hkk : (n : Int) + 1 - (i : Int) = ((n + 1 - i : Nat) : Int) := by omega
 have hik : i + (n + 1 - i) = n + 1 := by omega
 obtain ⟨G, hG⟩ : ∃ G, grownCap w (n + 1) n 52 = G := ⟨_, rfl⟩
 obtain ⟨ROW, hROW⟩ : ∃ ROW : Array Value, ((fcl fs).take (i * 2)).toArray ++ Builtin.zeroCells (Value.agg #[.string ⟨#[]⟩, .string ⟨#[]⟩]).cells (n + 1 - i) ++ Builtin.zeroCells (Value.agg #[.string ⟨#[]⟩, .string ⟨#[]⟩]).cells (G - (n + 1)) = ROW := ⟨_, rfl⟩
 obtain ⟨W1, hW1⟩ : ∃ W1, w.drew.alloc (.cells ROW 52) = W1 := ⟨_, rfl⟩
 have hrz : ∀ ty, (Builtin.append_ #[42, 3] ty #[.slice (some ⟨g, 0, none⟩) i n, .int .i64 ((n : Int) + 1 - (i : Int))]).run Tryz.prog w =
   .ok (.slice (some ⟨w.heap.size, 0, none⟩) (n + 1) G) W1 := fun ty => by
  have h := Lib.run_append_grow_zeros w 42 3 ty 52 i0 _ .i64 .i64 Tryz.underlying42 Tryz.underlying3 hi0 hz0 (some ⟨g, 0, none⟩) i n _ hold (n + 1 - i) (by omega) (by omega) (by omega) (by omega) (by rw [hz2]; omega) (by rw [hz2, hik]; exact growslice_fits (by omega) (by omega))
  rw [hik, hG] at h
  rw [hkk, h, hROW, hW1]
 have hGn : n + 1 ≤ G := by rw [← hG]; exact grownCap_ge w _ _ _
 have hGm : G ≤ maxLen := by rw [← hG]; exact grownCap_le_maxLen w (n + 1) n 52 (by unfold maxLen; omega)
 have hG63 : G ≤ 9223372036854775807 := Nat.le_trans hGm (by unfold maxLen; decide)
 have hzc : (Value.agg #[.string ⟨#[]⟩, .string ⟨#[]⟩]).cells.size = 2 := rfl
 have hRl : ROW.size = G * 2 := by
  rw [← hROW]
  simp only [Array.size_append, List.size_toArray, List.length_take, hfl, Builtin.zeroCells, Array.size_map, Array.size_range, hzc]
  omega
 have hb1 : Below w.heap.size w W1 := by rw [← hW1]; exact (Below.refl w.heap.size w).drew.alloc (Nat.le_refl _) _
 have hr1 : W1.heap[w.heap.size]? = some (.cells ROW 52 (0, 0)) := by rw [← hW1]; exact Deep.blk_alloc_new w.drew _
 have hs1 : W1.heap.size = w.heap.size + 1 := by rw [← hW1, Deep.nblk_alloc]; rfl
 obtain ⟨⟨c2, hr2, hc2, he2⟩, ho2, hs2, hb2⟩ := setCells_at w.heap.size 52 (0, 0) (encFd x) (i * 2) W1 ROW hr1
 obtain ⟨W2, hW2⟩ : ∃ W2, W1.setCells w.heap.size (i * 2) (encFd x) = W2 := ⟨_, rfl⟩
 rw [hW2] at hr2 ho2 hs2 hb2
 obtain ⟨⟨c3, hr3, hc3, he3⟩, ho3, hs3, hb3⟩ := setCells_at w.heap.size 52 (0, 0) ((fcl fs).drop (i * 2)) ((i + 1) * 2) W2.drew c2 hr2
 obtain ⟨W3, hW3⟩ : ∃ W3, W2.drew.setCells w.heap.size ((i + 1) * 2) ((fcl fs).drop (i * 2)) = W3 := ⟨_, rfl⟩
 rw [hW3] at hr3 ho3 hs3 hb3
 have hdl : ((fcl fs).drop (i * 2)).length = (n - i) * 2 := by rw [List.length_drop, hfl]; omega
 have hcpA : ∀ ty dc, (Builtin.copy_ #[42, 42] ty #[.slice (some ⟨w.heap.size, i * 2, none⟩) (n + 1 - i) dc, .slice (some ⟨q, 0, none⟩) 1 1]).run Tryz.prog W1 = .ok (goInt 1) W2 := fun ty dc => by
  have hmin : Nat.min 1 (n + 1 - i) = 1 := Nat.min_eq_left (by omega)
  have h := run_copy_k (P := Tryz.prog) 2 W1 42 42 ty 52 w.heap.size (i * 2) (n + 1 - i) dc ⟨q, 0, none⟩ 1 1 (encFd x) Tryz.underlying42 hsz (by rw [hmin]; rfl)
   (fun j v hj => by
    rw [addp, Nat.zero_add, Lib.cell_of_heap ((hb1.block q hql).trans hx), ← Array.getElem?_toList]
    exact hj)
   (fun j hj => by
    have : j < 2 := hj
    rw [Lib.cell_of_heap hr1, Array.getElem?_eq_getElem (by omega)]; rfl)
   (fun j _ => frz0 hr1 _) (by intro v hv; simp [encFd] at hv; rcases hv with rfl | rfl <;> rfl)
  rw [hmin, hW2] at h
  exact h
 have hcpB : ∀ ty dc sc, (Builtin.copy_ #[42, 42] ty #[.slice (some ⟨w.heap.size, (i + 1) * 2, none⟩) (n + 1 - (i + 1)) dc, .slice (some ⟨g, i * 2, none⟩) (n - i) sc]).run Tryz.prog W2.drew = .ok (goInt (n - i : Nat)) W3 := fun ty dc sc => by
  have hmin : Nat.min (n - i) (n + 1 - (i + 1)) = n - i := Nat.min_eq_left (by omega)
  have h := run_copy_k (P := Tryz.prog) 2 W2.drew 42 42 ty 52 w.heap.size ((i + 1) * 2) (n + 1 - (i + 1)) dc ⟨g, i * 2, none⟩ (n - i) sc ((fcl fs).drop (i * 2)) Tryz.underlying42 hsz (by rw [hmin, hdl])
   (fun j v hj => by
    rw [addp]
    rw [List.getElem?_drop] at hj
    have h1 := hcs _ v hj
    rw [Lib.cell_of_heap hg] at h1
    rw [Lib.cell_of_heap (w := W2.drew) ((ho2 g (by omega)).trans ((hb1.block g hgl).trans hg))]
    exact h1)
   (fun j hj => by
    rw [hdl] at hj
    rw [Lib.cell_of_heap (w := W2.drew) hr2, Array.getElem?_eq_getElem (by omega)]; rfl)
   (fun j _ => frz0 (w := W2.drew) hr2 _) (fun v hv => fcl_one fs v (List.mem_of_mem_drop hv))
  rw [hmin, hW3] at h
  exact h
 have HP : Hid (InsP B fs (.slice (some ⟨g, 0, none⟩) n n) x i w (.returned (.slice (some ⟨w.heap.size, 0, none⟩) (n + 1) G)) W3) := Lib.hid (by
  have hl : (fs.take i ++ x :: fs.drop i).length = n + 1 := by simp; omega
  have hblk : ∀ k, k < w.heap.size → W3.heap[k]? = w.heap[k]? := fun k hk => (ho3 k (by omega)).trans ((ho2 k (by omega)).trans (hb1.block k hk))
  refine ⟨_, rfl, own_fds ?_ (by omega), ((hb1.mono hB).trans (hb2.mono hB)).trans ((Below.refl _ W2).drew.trans (hb3.mono hB)), fun k hk _ => hblk k hk⟩
  rw [hl]
  refine ⟨by rw [fcl_len, hl], .inr ⟨w.heap.size, G, c3, rfl, hB, hr3, hGn, hGm, by rw [hc3, hc2, hRl], ?_⟩⟩
  apply List.ext_getElem?
  intro k
  rw [fcl_ins fs x i (by omega)]
  by_cases hk : k < (n + 1) * 2
  ·rw [List.getElem?_take_of_lt hk, Array.getElem?_toList, he3, he2, hdl]
   by_cases k1 : k < i * 2
   ·rw [if_pos k1, if_neg (by omega), if_neg (by omega), ← hROW, Array.getElem?_append_left (by simp [hfl]; omega), Array.getElem?_append_left (by simp [hfl]; omega)]
    simp [List.getElem?_take_of_lt k1]
   ·rw [if_neg k1]
    by_cases k2 : k < (i + 1) * 2
    ·rw [if_pos k2, if_neg (by omega), if_pos ⟨by omega, by show k < i * 2 + 2; omega, by rw [hRl]; omega⟩]
    ·rw [if_neg k2, if_pos ⟨by omega, by omega, by rw [hc2, hRl]; omega⟩, List.getElem?_drop]
     congr 1
     omega
  ·rw [List.getElem?_take_eq_none (by omega), if_neg (by omega), if_neg (by omega), List.getElem?_eq_none (by rw [hfl]; omega)])
 have c1 : ¬ (n = i) := by omega
 have c2' : ¬ (G = i) := by omega
 have c3' : ¬ (G = i + 1) := by omega
 have c4 : ¬ ((i : Int) = (n : Int)) := by omega
 have c5 : (i : Int) ≤ (n : Int) := by omega
 have c6 : ((i : Int) + 1).toNat = i + 1 := by omega
 have c7 : (n : Int) < (n : Int) + 1 := by omega
 have c8 : IntKind.i64.wrap ((i : Int) + 1) = (i : Int) + 1 := by rw [IntKind.wrap_i64]; omega
 have c9 : (0 : Int) ≤ (i : Int) + 1 := by omega
 clear hi0 hz0 hz1 hz2 hsz hfl hcs hold hkk hik hG hROW hW1 hzc hRl hb1 hr1 hs1 hr2 hc2 he2 ho2 hs2 hb2 hr3 hc3 he3 ho3 hs3 hb3 hdl hn hg hcur hx hW2 hW3 hGm
 go_enter Tryz.func35, Tryz.ntmps35
 go_wp2_with (first
  | (at_builtin; refine Lib.wpList_append_run _ rfl _ _ _ _ rfl _ _ rfl rfl _ _ (hrz _) ?_)
  | (at_builtin; refine wpl_copy_run _ rfl _ _ 42 42 rfl _ _ rfl rfl (hcpA _ _) ?_))
 go_region_law (refine step_copy_run rfl _ _ 42 42 rfl (.slice (some ⟨w.heap.size, (i + 1) * 2, none⟩) (n + 1 - (i + 1)) (G - (i + 1))) (.slice (some ⟨g, i * 2, none⟩) (n - i) (n - i)) (by simp [Act.eval, Act.put]) (by simp [Act.eval, Act.put]) (hcpB 3 (G - (i + 1)) (n - i)) ?_)
 all_goals
  go_wp2_with fail
  go_ret
  exact HP.out
set_option maxHeartbeats 4000000 in
set_option maxRecDepth 1000000 in
theorem ins_room {B : Nat} (fs : List Fd) (x : Fd) (g n i q G : Nat) (cur : Array Value) (w : World) (hn : fs.length = n) (hBg : B ≤ g) (hg : w.heap[g]? = some (.cells cur 52 (0, 0))) (hcur : cur.toList.take (n * 2) = fcl fs)
  (hx : w.heap[q]? = some (.cells #[.string ⟨x.1.toArray⟩, .string ⟨x.2.toArray⟩] 52 (0, 0))) (hq : q ≠ g) (hn1 : n ≤ 1000) (hi : i < n) (hG : n + 1 ≤ G) (hGm : G ≤ maxLen) (hcz : cur.size = G * 2) :
  Calls Tryz.prog 35 #[.slice (some ⟨g, 0, none⟩) n G, .int .i64 (i : Int), .slice (some ⟨q, 0, none⟩) 1 1] w (InsP B fs (.slice (some ⟨g, 0, none⟩) n G) x i w) := by
 obtain ⟨i0, hi0, hz0, hz1, hz2⟩ := info_parts infoFd
 have hsz : (Tryz.prog.info? 52).map (·.size) = some 2 := by rw [hi0]; simp [hz1]
 have hfl : (fcl fs).length = n * 2 := by rw [fcl_len, hn]
 have hgl := heap_lt hg
 have hql := heap_lt hx
 have hcs : ∀ j v, (fcl fs)[j]? = some v → cur[j]? = some v := fun j v hj => by
  rw [← Array.getElem?_toList]
  rw [← hcur] at hj
  rw [List.getElem?_take] at hj
  split at hj
  ·exact hj
  ·cases hj
 have hG63 : G ≤ 9223372036854775807 := Nat.le_trans hGm (by unfold maxLen; decide)
 have hdl : ((fcl fs).drop (i * 2)).length = (n - i) * 2 := by rw [List.length_drop, hfl]; omega
 have hov : ∀ lb cb, (callFunc 59 #[.slice (some ⟨q, 0, none⟩) 1 1, .slice (some ⟨g, (i + 1) * 2, none⟩) lb cb]).run Tryz.prog w = .ok (.value (.bool false)) w := fun lb cb => by
  rw [run_callFunc_extern Tryz.func59 (by kernel_rfl) (by kernel_rfl) (by kernel_rfl) (e := Extern.SlicesOverlaps.overlaps #[42, 42] #[4]) (by kernel_rfl),
   Lib.run_overlaps_apart w 42 4 52 Tryz.underlying42 2 (fun w => by simp [sizeOf, typeInfo, hi0, hz1]) ⟨q, 0, none⟩ ⟨g, (i + 1) * 2, none⟩ 1 1 lb cb hq 52 52 2 (G * 2)
    (by simp [World.shape?, hx]) (by simp [World.shape?, hg, hcz]) (by omega) (frz0 hx 0) (frz0 hx 2)]
  rfl
 have hgd : w.drew.heap[g]? = some (.cells cur 52 (0, 0)) := hg
 obtain ⟨⟨c2, hr2, hc2, he2⟩, ho2, hs2, hb2⟩ := setCells_at g 52 (0, 0) ((fcl fs).drop (i * 2)) ((i + 1) * 2) w.drew cur hgd
 obtain ⟨W2, hW2⟩ : ∃ W2, w.drew.setCells g ((i + 1) * 2) ((fcl fs).drop (i * 2)) = W2 := ⟨_, rfl⟩
 rw [hW2] at hr2 ho2 hs2 hb2
 obtain ⟨⟨c3, hr3, hc3, he3⟩, ho3, hs3, hb3⟩ := setCells_at g 52 (0, 0) (encFd x) (i * 2) W2 c2 hr2
 obtain ⟨W3, hW3⟩ : ∃ W3, W2.setCells g (i * 2) (encFd x) = W3 := ⟨_, rfl⟩
 rw [hW3] at hr3 ho3 hs3 hb3
 have hcpA : ∀ ty dc sc, (Builtin.copy_ #[42, 42] ty #[.slice (some ⟨g, (i + 1) * 2, none⟩) (n + 1 - (i + 1)) dc, .slice (some ⟨g, i * 2, none⟩) (n + 1 - i) sc]).run Tryz.prog w.drew = .ok (goInt (n - i : Nat)) W2 := fun ty dc sc => by
  have hmin : Nat.min (n + 1 - i) (n + 1 - (i + 1)) = n - i := by simp only [Nat.min_def]; split <;> omega
  have h := run_copy_k (P := Tryz.prog) 2 w.drew 42 42 ty 52 g ((i + 1) * 2) (n + 1 - (i + 1)) dc ⟨g, i * 2, none⟩ (n + 1 - i) sc ((fcl fs).drop (i * 2)) Tryz.underlying42 hsz (by rw [hmin, hdl])
   (fun j v hj => by
    rw [addp]
    rw [List.getElem?_drop] at hj
    rw [Lib.cell_of_heap hgd]
    exact hcs _ v hj)
   (fun j hj => by
    rw [hdl] at hj
    rw [Lib.cell_of_heap hgd, Array.getElem?_eq_getElem (by omega)]; rfl)
   (fun j _ => frz0 hgd _) (fun v hv => fcl_one fs v (List.mem_of_mem_drop hv))
  rw [hmin, hW2] at h
  exact h
 have hcpB : ∀ ty dc, (Builtin.copy_ #[42, 42] ty #[.slice (some ⟨g, i * 2, none⟩) (n + 1 - i) dc, .slice (some ⟨q, 0, none⟩) 1 1]).run Tryz.prog W2 = .ok (goInt 1) W3 := fun ty dc => by
  have hmin : Nat.min 1 (n + 1 - i) = 1 := Nat.min_eq_left (by omega)
  have h := run_copy_k (P := Tryz.prog) 2 W2 42 42 ty 52 g (i * 2) (n + 1 - i) dc ⟨q, 0, none⟩ 1 1 (encFd x) Tryz.underlying42 hsz (by rw [hmin]; rfl)
   (fun j v hj => by
    rw [addp, Nat.zero_add, Lib.cell_of_heap ((ho2 q hq).trans hx), ← Array.getElem?_toList]
    exact hj)
   (fun j hj => by
    have : j < 2 := hj
    rw [Lib.cell_of_heap hr2, Array.getElem?_eq_getElem (by omega)]; rfl)
   (fun j _ => frz0 hr2 _) (by intro v hv; simp [encFd] at hv; rcases hv with rfl | rfl <;> rfl)
  rw [hmin, hW3] at h
  exact h
 have HP : Hid (InsP B fs (.slice (some ⟨g, 0, none⟩) n G) x i w (.returned (.slice (some ⟨g, 0, none⟩) (n + 1) G)) W3) := Lib.hid (by
  have hl : (fs.take i ++ x :: fs.drop i).length = n + 1 := by simp; omega
  refine ⟨_, rfl, own_fds ?_ (by omega), ((Below.refl _ w).drew.trans (hb2.mono hBg)).trans (hb3.mono hBg), fun k hk hne => (ho3 k (fun e => hne (by rw [e]; rfl))).trans (ho2 k (fun e => hne (by rw [e]; rfl)))⟩
  rw [hl]
  refine ⟨by rw [fcl_len, hl], .inr ⟨g, G, c3, rfl, hBg, hr3, hG, hGm, by rw [hc3, hc2, hcz], ?_⟩⟩
  apply List.ext_getElem?
  intro k
  rw [fcl_ins fs x i (by omega)]
  by_cases hk : k < (n + 1) * 2
  ·rw [List.getElem?_take_of_lt hk, Array.getElem?_toList, he3, he2, hdl]
   by_cases k1 : k < i * 2
   ·rw [if_pos k1, if_neg (by omega), if_neg (by omega)]
    have h1 : (fcl fs)[k]? = some ((fcl fs)[k]'(by omega)) := List.getElem?_eq_getElem (by omega)
    rw [h1]
    exact hcs _ _ h1
   ·rw [if_neg k1]
    by_cases k2 : k < (i + 1) * 2
    ·rw [if_pos k2, if_pos ⟨by omega, by show k < i * 2 + 2; omega, by rw [hc2]; omega⟩]
    ·rw [if_neg k2, if_neg (by rintro ⟨_, h, _⟩; have h' : k < i * 2 + 2 := h; omega), if_pos ⟨by omega, by omega, by omega⟩, List.getElem?_drop]
     congr 1
     omega
  ·rw [List.getElem?_take_eq_none (by omega), if_neg (by omega), if_neg (by omega), List.getElem?_eq_none (by rw [hfl]; omega)])
 have c1 : ¬ (G = i) := by omega
 have c3' : ¬ (G = i + 1) := by omega
 have c4 : ¬ ((i : Int) = (n : Int)) := by omega
 have c5 : (i : Int) ≤ (n : Int) := by omega
 have c6 : ((i : Int) + 1).toNat = i + 1 := by omega
 have c7 : ¬ (G : Int) < (n : Int) + 1 := by omega
 have c8 : IntKind.i64.wrap ((i : Int) + 1) = (i : Int) + 1 := by rw [IntKind.wrap_i64]; omega
 have c9 : (0 : Int) ≤ (i : Int) + 1 := by omega
 have ca : (n : Int) + 1 ≤ (G : Int) := by omega
 have cb : ((n : Int) + 1).toNat = n + 1 := by omega
 have cc : (i : Int) ≤ (n : Int) + 1 := by omega
 clear hi0 hz0 hz1 hz2 hsz hfl hcs hgd hr2 hc2 he2 ho2 hs2 hb2 hr3 hc3 he3 ho3 hs3 hb3 hdl hn hg hcur hx hW2 hW3 hGm hcz
 go_enter Tryz.func35, Tryz.ntmps35
 go_wp2_with (simp only [hov])
 go_region_law (refine step_copy_run rfl _ _ 42 42 rfl (.slice (some ⟨g, (i + 1) * 2, none⟩) (n + 1 - (i + 1)) (G - (i + 1))) (.slice (some ⟨g, i * 2, none⟩) (n + 1 - i) (G - i)) (by simp [Act.eval, Act.put]) (by simp [Act.eval, Act.put]) (hcpA 3 (G - (i + 1)) (G - i)) ?_)
 all_goals
  go_wp2_with (at_builtin; refine wpl_copy_run _ rfl _ _ 42 42 rfl _ _ rfl rfl (hcpB _ _) ?_)
  go_ret
  exact HP.out
theorem ins_law : InsLaw fun _ _ => True := by
 intro B fs fv x1 x2 i q w h hx hne hB hn hi _
 rcases Nat.lt_or_eq_of_le hi with hi | hi
 ·obtain ⟨hl, ⟨h1, h2⟩ | ⟨g, cap, cur, h1, hBg, hg, hnc, hcm, hcs, htk⟩⟩ := h.fcl
  ·omega
  ·subst h1
   have hqg : q ≠ g := fun e => hne (by rw [e]; rfl)
   by_cases hr : fs.length + 1 ≤ cap
   ·exact ins_room fs (x1, x2) g fs.length i q cap cur w rfl hBg hg htk hx hqg hn hi hr hcm hcs
   ·obtain rfl : cap = fs.length := by omega
    exact ins_grow fs (x1, x2) g fs.length i q cur w rfl hg htk hx hB hn hi
 ·subst hi
  rw [List.take_of_length_le (Nat.le_refl _), List.drop_of_length_le (Nat.le_refl _)]
  exact ins_end fs fv x1 x2 q w h hx hB hn
end Go.Proofs.YtmpbjaodgajnfaaGreatDoor
namespace Go.Proofs.YtmpbjaodgajnfaaGreatDoor
open Go.RowKit
theorem lens_le : ∀ (ls : List Ln), (∀ x ∈ ls, x.2.2.length ≤ 60) → Lib.lens (ls.map (·.2.2)) ≤ 60 * ls.length
 | [], _ => by simp [Lib.lens]
 | x :: ls, h => by
  have h1 := lens_le ls (fun y hy => h y (List.mem_cons_of_mem _ hy))
  have h2 := h x List.mem_cons_self
  simp only [Lib.lens, List.map_cons, List.sum_cons, List.length_cons] at h1 ⊢
  omega
theorem txt_len (ls : List Ln) (h : ∀ x ∈ ls, x.2.2.length ≤ 60) : (txtL ls).length ≤ 61 * ls.length := by
 cases ls with
 | nil => simp [txtL, Lib.join, List.intercalate]
 | cons x r =>
  have h1 := lens_le (x :: r) h
  unfold txtL
  rw [List.map_cons, Lib.join_length, ← List.map_cons (f := fun y : Ln => y.2.2), List.length_map]
  simp only [List.length_cons, List.length_nil, List.map_cons] at h1 ⊢
  omega
theorem low_of {n : Mt.Nm} (h : n = nMs ∨ n = nUser ∨ n = nCode ∨ n = nLevel) : NmLow n := by
 rcases h with rfl | rfl | rfl | rfl
 ·exact fieldF_low 2 (by decide)
 ·exact fieldF_low 3 (by decide)
 ·exact fieldF_low 0 (by decide)
 ·exact fieldF_low 1 (by decide)
theorem grp_few (t : NT) (ms : List Mt.Mk) : (mgrp t ms).length ≤ (Mt.nsN t []).length := by
 rw [mgrp_len]
 unfold Mt.cntM
 exact Nat.le_trans (List.length_filter_le _ _) (by rw [List.length_range]; exact Nat.le_refl _)
structure FsO (d : Evd) (fs' : List Fd) : Prop where
 srt : SrtF fs'
 more : d.2.2.length ≤ fs'.length
 few : fs'.length ≤ 6
 names : ∀ x ∈ fs', NmLow x.1 ∧ x.2.length ≤ 2000
theorem fld_out {d : Evd} (hs : EvSt d) {k : Nat} (hk : k < 7) {fs' : List Fd} (h : FldR (exT k) (txtL d.2.1) d.2.2 fs') : FsO d fs' := by
 have hsrt := hs.good.srt
 have h4 := hs.nf4
 have htx := txt_len d.2.1 hs.tl
 have h3 := hs.nl3
 have hsame : FsO d d.2.2 := ⟨hsrt, Nat.le_refl _, by omega, hs.good.names⟩
 rcases h with ⟨a, xe, ms, _, _, _, rfl⟩ | ⟨_, rfl⟩
 ·split
  ·have hl := ext_len (txtL d.2.1) (mgrp (exT k) ms) d.2.2 hsrt
   have hg := grp_few (exT k) ms
   have hn := ex_ns k hk
   refine ⟨ext_srt _ _ _ hsrt, hl.1, by omega, fun x hx => ?_⟩
   rcases ext_from _ _ _ hsrt x hx with h1 | ⟨g, hg, rfl⟩
   ·exact hs.good.names x h1
   ·refine ⟨low_of (hn.2 _ (mgrp_name hg)), ?_⟩
    show (cutG (txtL d.2.1) g).length ≤ 2000
    unfold cutG
    rw [List.length_drop, List.length_take]
    omega
  ·exact hsame
 ·exact hsame
theorem DG.evi {F : Nat → Prop} {W : World} {d : Evd} (h : DG F W d) (t : NT) : EvI F t (fun _ _ => True) W d := by
 have htx := txt_len d.2.1 h.st.tl
 have h3 := h.st.nl3
 have h4 := h.st.nf4
 exact ⟨h.lmem, h.fmem, h.fnil, by omega, by omega, by omega, h.st.good.srt, fun _ _ _ hf => grp_ok hf, fun _ _ _ _ _ _ _ _ => trivial⟩
theorem exl {α : Type} {n : Nat} {P : Nat → α → Prop} (h : ∀ i, i < n → ∃ y, P i y) : ∃ l : List α, l.length = n ∧ ∀ i (hi : i < l.length), P i l[i] :=
 ⟨List.ofFn fun i : Fin n => Classical.choose (h i.1 i.2), by simp, fun i hi => by
  rw [List.getElem_ofFn]
  exact Classical.choose_spec (h i (by simpa using hi))⟩
theorem app_out {t : NT} {ds : List Evd} {F : Nat → Prop} {w : World} {xs : List Ev} (hn : xs.length = ds.length) (h : ∀ i (h : i < ds.length) (h' : i < xs.length), EvO F t w ds[i] xs[i]) :
  ∃ es : List Evd, es.length = ds.length ∧ es.map (·.1) = xs ∧ ∀ i (h : i < ds.length) (h' : i < es.length), es[i].1 = { ds[i].1 with fv := es[i].1.fv } ∧ es[i].2.1 = ds[i].2.1 ∧ RW F 2 FdR w es[i].2.2 es[i].1.fv ∧ (es[i].2.2 = [] → es[i].1.fv = .slice none 0 0) ∧ FldR t (txtL ds[i].2.1) ds[i].2.2 es[i].2.2 := by
 obtain ⟨gs, hgl, hg⟩ := exl (n := ds.length) (P := fun i y => ∃ (h : i < ds.length) (h' : i < xs.length) (fv' : Value), xs[i] = { ds[i].1 with fv := fv' } ∧ RW F 2 FdR w y fv' ∧ (y = [] → fv' = .slice none 0 0) ∧ FldR t (txtL ds[i].2.1) ds[i].2.2 y) (fun i hi => by
  obtain ⟨fs', fv', h1, h2, h3, h4⟩ := h i hi (by omega)
  exact ⟨fs', hi, by omega, fv', h1, h2, h3, h4⟩)
 refine ⟨List.ofFn fun i : Fin ds.length => (xs[i.1]'(by have := i.2; omega), ds[i.1].2.1, gs[i.1]'(by have := i.2; omega)), by simp, ?_, fun i hi h' => ?_⟩
 ·apply List.ext_getElem
  ·simp [hn]
  ·intro i h1 h2
   simp
 ·obtain ⟨_, _, fv', h1, h2, h3, h4⟩ := hg i (by omega)
  simp only [List.getElem_ofFn]
  have e : (xs[i]'(by omega)).fv = fv' := by rw [h1]
  exact ⟨by rw [e]; exact h1, trivial, by rw [e]; exact h2, by rw [e]; exact h3, h4⟩
def SrcP (g : Nat) (w : World) (e : Ending) (w' : World) : Prop := ∃ k, k < 7 ∧ e = .returned (.string ⟨(exS k).toArray⟩) ∧ CodesAt w' g ∧ Apart g w w'
def srcO : Obj := .cells #[.string ⟨#[40, 109, 115, 58, 92, 100, 43, 41]⟩, .string ⟨#[40, 117, 115, 101, 114, 58, 91, 97, 45, 122, 93, 43, 41, 95, 40, 99, 111, 100, 101, 58, 92, 100, 41]⟩, .string ⟨#[120]⟩, .string ⟨#[40, 108, 101, 118, 101, 108, 58, 103, 101, 116, 124, 119, 97, 114, 110, 41]⟩, .string ⟨#[40, 108, 101, 118, 101, 108, 58, 101, 40, 99, 111, 100, 101, 58, 114, 43, 41, 111, 41]⟩, .string ⟨#[]⟩, .string ⟨#[94, 40, 109, 115, 58, 46, 42, 41, 36]⟩] 9
theorem src_at (W : World) : ∀ k, k < 7 → (W.alloc srcO).cell? ⟨W.heap.size, k, none⟩ = some (.string ⟨(exS k).toArray⟩) := by
 intro k hk
 rcases seven hk with rfl | rfl | rfl | rfl | rfl | rfl | rfl <;> simp [go_sem, srcO, exS]
theorem src_next (g : Nat) (w : World) (hc : CodesAt w g) : Calls Tryz.prog 21 #[.pointer (some ⟨g, 0, none⟩), .int .i64 7] (w.alloc srcO) fun e w' =>
  ∃ k : Nat, k < 7 ∧ e = .returned (.int .i64 k) ∧ w'.cell? ⟨w.heap.size, k, none⟩ = some (.string ⟨(exS k).toArray⟩) ∧ CodesAt w' g ∧ Apart g w w' := by
 have hb : Below w.heap.size w (w.alloc srcO) := (Below.refl _ w).alloc (Nat.le_refl _) _
 refine (next_any g 7 _ (hc.below hb) (by decide) (by decide)).mono ?_
 rintro e w' ⟨k, hk, rfl, h2, h3⟩
 exact ⟨k, hk, rfl, (h3.cell (p := ⟨w.heap.size, k, none⟩) (by have := hc.1; simp; omega) (by simp)).trans (src_at w k hk), h2, (Apart.of_below hb hc.1).trans h3⟩
set_option maxRecDepth 100000 in
theorem source_any (g : Nat) (w : World) (hc : CodesAt w g) : Calls Tryz.prog 9 #[.pointer (some ⟨g, 0, none⟩)] w (SrcP g w) := by
 have HN := Lib.hid (src_next g w hc)
 clear hc
 go_enter Tryz.func9, Tryz.ntmps9
 go_wp2_with fail
 refine HN.out.mono ?_
 rintro e w1 ⟨k, hk, rfl, hcell, hca, hap⟩
 have i1 : (k : Int) < 7 := by omega
 have i2 : (0 : Int) ≤ (k : Int) := by omega
 have HC := Lib.hid hca
 have HA := Lib.hid hap
 obtain ⟨x, hx⟩ : ∃ x, exS k = x := ⟨_, rfl⟩
 have HX := Lib.hid hx
 rw [hx] at hcell
 clear hca hap HN hx
 go_wp2_with fail
 go_ret
 exact ⟨k, hk, by rw [HX.out]; rfl, HC.out, HA.out⟩
end Go.Proofs.YtmpbjaodgajnfaaGreatDoor

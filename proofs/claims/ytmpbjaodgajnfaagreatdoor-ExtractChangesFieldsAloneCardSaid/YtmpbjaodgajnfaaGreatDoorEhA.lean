/-
 Joined: Kit, Own, OwnK, Str, Mem, Draw, RowM, Shelf, MtA, PatA, MtB, MtC, MtD, MtE, MtF, MtG, MtH, MtI, PatB, PatC, Kinds, PatD.
-/
import Derived.Test.YtmpbjaodgajnfaaGreatDoorProg
import Derived.WalkKit
import Derived.WalkSpells
import Derived.WalkLawsBesides
import Derived.Deep.QuietTactic
import Derived.BigQuiet
import Derived.Lib.Hide
import Derived.Laws.AppendOwn
import Derived.Lib.Bytealg
import Derived.Lib.Strings
import Derived.Lib.Builder
import Derived.Lib.AppendStr
import Derived.Lib.ConvBytes
import Derived.Laws.IdiomStrings
import Derived.Laws.BytesArg
import Derived.Laws.AppendOwnNone
import Derived.OwnWalk
import Derived.BigRegion
import Derived.RegionTactic
import Derived.IntWalk
import Derived.Deep.WholeRow
import Derived.Laws.Rows
import Derived.Deep.AppendLies
import Derived.Laws.NewBlocks
import Derived.Shelf.Strings.Builder1
import Derived.Shelf.Strings.Builder2
import Derived.Shelf.Strings.OnBuilder
import Derived.Shelf.Small.Strs
import Derived.Shelf.Small.Wraps
import Derived.Shelf.Strings.BuilderF
import Derived.Shelf.Strings.BuilderK
import Derived.Shelf.Strings.Builder2Cap
import Derived.Shelf.Strings.Search1
import Derived.Shelf.Strings.Prefix
import Derived.Shelf.Strings.BuilderCap
import Derived.Shelf.Slices.Turned
import Derived.Ground.Names2Prog
import Derived.Shelf.Slices.SearchI
namespace Go.Proofs.YtmpbjaodgajnfaaGreatDoor
open Go.RowKit
theorem ret_int {k : IntKind} {a b : Int} (h : a = b) : Ending.returned (.int k a) = .returned (.int k b) := by rw [h]
theorem ret_bool {a b : Bool} (h : a = b) : Ending.returned (.bool a) = .returned (.bool b) := by rw [h]
def Qt (w w' : World) : Prop := ∃ n, w' = w.drewN n
theorem Qt.refl (w : World) : Qt w w := ⟨0, rfl⟩
theorem Qt.drewN (w : World) (n : Nat) : Qt w (w.drewN n) := ⟨n, rfl⟩
theorem Qt.trans {a b c : World} (h : Qt a b) (k : Qt b c) : Qt a c := by
 obtain ⟨n, rfl⟩ := h
 obtain ⟨m, rfl⟩ := k
 exact ⟨n + m, by rw [World.drewN_drewN]⟩
theorem Qt.below {a b : World} (h : Qt a b) (B : Nat) : Below B a b := by
 obtain ⟨n, rfl⟩ := h
 exact ⟨rfl, rfl, rfl, Nat.le_refl _, fun _ _ => rfl⟩
theorem Qt.cell {a b : World} (h : Qt a b) (p : Addr) : b.cell? p = a.cell? p := by
 obtain ⟨n, rfl⟩ := h
 rfl
theorem Qt.size {a b : World} (h : Qt a b) : b.heap.size = a.heap.size := by
 obtain ⟨n, rfl⟩ := h
 rfl
theorem below_drewN {B : Nat} {a w : World} (h : Below B a w) (n : Nat) : Below B a (w.drewN n) := ⟨h.os, h.tape, h.output, h.size, h.block⟩
end Go.Proofs.YtmpbjaodgajnfaaGreatDoor
namespace Go.Proofs.YtmpbjaodgajnfaaGreatDoor
open Go.RowKit
end Go.Proofs.YtmpbjaodgajnfaaGreatDoor
namespace Go.Proofs.YtmpbjaodgajnfaaGreatDoor
open Go.RowKit
end Go.Proofs.YtmpbjaodgajnfaaGreatDoor
namespace Go.Proofs.YtmpbjaodgajnfaaGreatDoor
open Go.RowKit
namespace Asc
def at_ (l : List UInt8) (i : Nat) : Nat := match l[i]? with | some c => c.toNat | none => 999
theorem at_none {l : List UInt8} {i : Nat} (h : l.length ≤ i) : at_ l i = 999 := by
 unfold at_; rw [List.getElem?_eq_none h]
theorem at_lt {l : List UInt8} {i : Nat} (h : at_ l i ≤ 255) : i < l.length := by
 rcases Nat.lt_or_ge i l.length with c | c
 ·exact c
 ·rw [at_none c] at h; omega
theorem at_of {l : List UInt8} {i : Nat} (h : i < l.length) : at_ l i = l[i].toNat := by
 unfold at_; rw [List.getElem?_eq_getElem h]
theorem at_le {l : List UInt8} {i : Nat} (h : i < l.length) : at_ l i ≤ 255 := by
 rw [at_of h]; have := l[i].toNat_lt; omega
theorem snoc_take {α : Type} (l : List α) (k : Nat) (h : k < l.length) : l.take (k + 1) = l.take k ++ [l[k]] := by
 rw [List.take_succ_eq_append_getElem h]
theorem ofNat_toNat8 {n : Nat} (h : n < 256) : (UInt8.ofNat n).toNat = n := by simp [Nat.mod_eq_of_lt h]
def seg (l : List UInt8) (a b : Nat) : List UInt8 := (l.drop a).take (b - a)
theorem seg_same (l : List UInt8) (a : Nat) : seg l a a = [] := by unfold seg; simp
theorem seg_length (l : List UInt8) {a b : Nat} (hb : b ≤ l.length) : (seg l a b).length = b - a := by unfold seg; rw [List.length_take, List.length_drop]; omega
theorem seg_snoc (l : List UInt8) {a b : Nat} (h : a ≤ b) (hb : b < l.length) : seg l a (b + 1) = seg l a b ++ [l[b]] := by
 unfold seg
 rw [show b + 1 - a = (b - a) + 1 by omega, snoc_take _ _ (by rw [List.length_drop]; omega)]
 congr 2
 rw [List.getElem_drop]
 congr 1
 omega
def pos (l : List UInt8) (c : UInt8) : Nat := l.findIdx (· == c)
def has (l : List UInt8) (c : UInt8) : Bool := decide (pos l c < l.length)
theorem indexByte_pos (l : List UInt8) (c : UInt8) : Lib.indexByte l c = if pos l c < l.length then (pos l c : Int) else -1 := by
 induction l with
 | nil => rfl
 | cons b l ih =>
  unfold Lib.indexByte pos
  rw [List.findIdx_cons]
  by_cases h : (b == c) = true
  ·simp [h]
  ·simp only [h, Bool.false_eq_true, if_false, cond_false]
   rw [ih]
   unfold pos
   simp only [List.length_cons]
   by_cases g : List.findIdx (· == c) l < l.length
   ·rw [if_pos g]
    have h1 : (((List.findIdx (· == c) l : Nat) : Int) == -1) = false := by rw [beq_eq_false_iff_ne]; omega
    simp [h1, g]
   ·rw [if_neg g]
    simp [g]
theorem pos_at {l : List UInt8} {c : UInt8} (h : pos l c < l.length) : l[pos l c] = c := by
 have h2 : (l[pos l c] == c) = true := List.findIdx_getElem (p := (· == c)) (xs := l) (w := h)
 exact eq_of_beq h2
theorem pos_none {l : List UInt8} {c : UInt8} (hb : ∀ j (hj : j < l.length), l[j] ≠ c) : ¬ pos l c < l.length := fun h => hb _ h (pos_at h)
theorem extract_seg (l : List UInt8) (a b : Nat) : (ByteArray.mk l.toArray).extract a b = ⟨(seg l a b).toArray⟩ := by
 apply ByteArray.ext
 simp [ByteArray.data_extract, seg]
end Asc
theorem byte_at (l : List UInt8) (k : Nat) (h : k < l.length) : ∃ c : Nat, (∃ h' : k < (ByteArray.mk l.toArray).size, ((ByteArray.mk l.toArray)[k]'h').toNat = c) ∧ l[k].toNat = c ∧ c < 256 :=
 ⟨l[k].toNat, ⟨by simpa [ByteArray.size] using h, rfl⟩, rfl, l[k].toNat_lt⟩
theorem ext_drop (l : List UInt8) (k : Nat) : (ByteArray.mk l.toArray).extract k l.length = ⟨(l.drop k).toArray⟩ := by
 apply ByteArray.ext
 simp [ByteArray.data_extract]
 exact List.take_of_length_le (by simp)
theorem u8_of (c : UInt8) : ((c.toNat : Int)).toNat.toUInt8 = c := by
 simp
theorem u8_nat {x : Int} (wx : (Lit.int .u8 x).wf = true) : ∃ c : Nat, c < 256 ∧ x = (c : Int) := by
 have h : 0 ≤ x ∧ x ≤ 255 := by
  have h' := wx
  unfold Lit.wf at h'
  rw [Bool.and_eq_true, decide_eq_true_iff, decide_eq_true_iff] at h'
  exact h'
 exact ⟨x.toNat, by omega, by omega⟩
end Go.Proofs.YtmpbjaodgajnfaaGreatDoor
namespace Go.Proofs.YtmpbjaodgajnfaaGreatDoor
open Go.RowKit
def BA (w : World) (blk off : Nat) (bs : List UInt8) : Prop := ∀ i, i < bs.length → w.cell? ⟨blk, off + i, none⟩ = some (.int .u8 (Asc.at_ bs i : Nat))
theorem BA.drop {w : World} {blk off : Nat} {bs : List UInt8} (h : BA w blk off bs) (k : Nat) : BA w blk (off + k) (bs.drop k) := fun i hi => by
 rw [List.length_drop] at hi
 have := h (k + i) (by omega)
 have e : Asc.at_ (bs.drop k) i = Asc.at_ bs (k + i) := by unfold Asc.at_; rw [List.getElem?_drop]
 rw [e, show off + k + i = off + (k + i) by omega]
 exact this
theorem BA.below {w w' : World} {blk off : Nat} {bs : List UInt8} (h : BA w blk off bs) (hb : ∀ i, i < bs.length → w'.cell? ⟨blk, off + i, none⟩ = w.cell? ⟨blk, off + i, none⟩) : BA w' blk off bs := fun i hi => (hb i hi).trans (h i hi)
structure NewBytes (w : World) (l : List UInt8) (cap : Nat) (w' : World) : Prop where
 run : (convert 9 22 (.string ⟨l.toArray⟩)).run Tryz.prog w = .ok (.slice (some ⟨w.heap.size, 0, none⟩) l.length cap) w'
 below : Below w.heap.size w w'
 size : w'.heap.size = w.heap.size + 1
 cells : BA w' w.heap.size 0 l
 room : l.length ≤ cap
 free : ∀ i, i < cap → w'.frozen? ⟨w.heap.size, i, none⟩ = false
theorem conv_bytes (w : World) (l : List UInt8) : ∃ cap w', NewBytes w l cap w' := by
 have hr := Lib.run_convert_string_bytes (P := Tryz.prog) w 9 22 5 ⟨l.toArray⟩ Tryz.underlying9 Tryz.underlying22 Tryz.underlying5
 have hn := Lib.bytesWorld_at_new w 5 ⟨l.toArray⟩
 have hsz : (Lib.bytesWorld w 5 ⟨l.toArray⟩).heap.size = w.heap.size + 1 := by
  simp [Lib.bytesWorld, World.freeze, World.alloc, World.drew, -World.alloc_eq, -World.drew_eq]
 have hl : (ByteArray.mk l.toArray).size = l.length := by simp [ByteArray.size]
 have hcl : (Lib.bytesCells w 5 ⟨l.toArray⟩).size = grownCap w l.length 0 5 := by
  have := grownCap_ge w l.length 0 5
  simp [Lib.bytesCells, hl]; omega
 refine ⟨grownCap w l.length 0 5, Lib.bytesWorld w 5 ⟨l.toArray⟩, ⟨by rw [hr, hl], ⟨rfl, rfl, rfl, by omega, fun k hk => Lib.bytesWorld_at_old _ _ _ _ hk⟩, hsz, fun i hi => ?_, grownCap_ge _ _ _ _, fun i hi => ?_⟩⟩
 ·rw [Lib.cell_of_heap hn]
  rw [Asc.at_of hi]
  simp [Lib.bytesCells, Array.getElem?_append, hi]
 ·unfold World.frozen?
  rw [hn, hcl]
  simp
  omega
theorem BA.at {w : World} {blk : Nat} {bs : List UInt8} (h : BA w blk 0 bs) (i : Nat) (hi : i < bs.length) : w.cell? ⟨blk, i, none⟩ = some (.int .u8 (Asc.at_ bs i : Nat)) := by
 have := h i hi
 rwa [Nat.zero_add] at this
theorem addp (b o i : Nat) : (⟨b, o, none⟩ : Addr).add i = ⟨b, o + i, none⟩ := by unfold Addr.add; split <;> simp_all
def BS (w : World) (v : Value) (bs : List UInt8) : Prop :=
 ∃ a cap, v = .slice a bs.length cap ∧ bs.length ≤ cap ∧ (0 < bs.length → ∃ blk off, a = some ⟨blk, off, none⟩ ∧ blk < w.heap.size ∧ BA w blk off bs)
theorem BS.below {w w' : World} {v : Value} {bs : List UInt8} (h : BS w v bs) (hb : Below w.heap.size w w') : BS w' v bs := by
 obtain ⟨a, cap, rfl, hc, h⟩ := h
 refine ⟨a, cap, rfl, hc, fun h0 => ?_⟩
 obtain ⟨blk, off, rfl, hl, hba⟩ := h h0
 exact ⟨blk, off, rfl, Nat.lt_of_lt_of_le hl hb.size, hba.below fun i _ => hb.cell (p := ⟨blk, off + i, none⟩) hl⟩
def BSI (w : World) (v : Value) (bs : List UInt8) : Prop :=
 (v = .slice none 0 0 ∧ bs = []) ∨ ∃ ad cap, v = .slice (some ad) bs.length cap ∧ bs.length ≤ cap ∧ ∀ j u, (Lib.byteCells bs)[j]? = some u → w.cell? (ad.add j) = some u
theorem byteCells_at {bs : List UInt8} {i : Nat} (h : i < bs.length) : (Lib.byteCells bs)[i]? = some (.int .u8 (Asc.at_ bs i : Nat)) := by
 unfold Lib.byteCells
 rw [Asc.at_of h]
 simp [h]
theorem BSI.bs {w : World} {v : Value} {bs : List UInt8} (h : BSI w v bs) : BS w v bs := by
 rcases h with ⟨rfl, rfl⟩ | ⟨ad, cap, rfl, hc, h⟩
 ·exact ⟨none, 0, rfl, Nat.le_refl _, fun h => by simp at h⟩
 ·refine ⟨some ad, cap, rfl, hc, fun h0 => ?_⟩
  have h1 := h 0 _ (byteCells_at h0)
  have hp : ad = ⟨ad.block, ad.off, none⟩ := by
   have e0 : ad.add 0 = ad := by unfold Addr.add; simp
   rw [e0] at h1
   have := World.cell?_spot h1
   cases ad
   simp_all
  refine ⟨ad.block, ad.off, congrArg some hp, ?_, fun i hi => ?_⟩
  ·have := World.block_lt_of_cell? w _ h1
   rw [hp] at this
   simpa [Addr.add] using this
  ·have := h i _ (byteCells_at hi)
   rw [hp, addp] at this
   exact this
theorem BSI.below {w w' : World} {v : Value} {bs : List UInt8} (h : BSI w v bs) (hb : Below w.heap.size w w') : BSI w' v bs := by
 rcases h with ⟨rfl, rfl⟩ | ⟨ad, cap, rfl, hc, h⟩
 ·exact .inl ⟨rfl, rfl⟩
 ·exact .inr ⟨ad, cap, rfl, hc, fun j u hj => (hb.cell (World.block_lt_of_cell? w _ (h j u hj))).trans (h j u hj)⟩
theorem infoStr : (Tryz.prog.info? 9).map (fun i => (i.zero, i.size, i.bytes)) = some (some (.string ⟨#[]⟩), 1, 16) := by kernel_rfl
def SS (w : World) (v : Value) (fs : List (List UInt8)) : Prop :=
 ∃ a cap, v = .slice a fs.length cap ∧ (0 < fs.length → ∃ g, a = some ⟨g, 0, none⟩ ∧ g < w.heap.size ∧ ∀ i (hi : i < fs.length), w.cell? ⟨g, i, none⟩ = some (.string ⟨(fs[i]).toArray⟩))
theorem SS.below {w w' : World} {v : Value} {fs : List (List UInt8)} (h : SS w v fs) (hb : Below w.heap.size w w') : SS w' v fs := by
 obtain ⟨a, cap, rfl, h⟩ := h
 refine ⟨a, cap, rfl, fun h0 => ?_⟩
 obtain ⟨g, rfl, hl, hc⟩ := h h0
 exact ⟨g, rfl, Nat.lt_of_lt_of_le hl hb.size, fun i hi => (hb.cell (p := ⟨g, i, none⟩) hl).trans (hc i hi)⟩
def strCellsL (fs : List (List UInt8)) : List Value := fs.map fun f => Value.string ⟨f.toArray⟩
theorem ss_own {w : World} {B : Nat} {v : Value} {fs : List (List UInt8)} (h : w.ownsRow B 9 1 v fs.length (strCellsL fs)) : SS w v fs := by
 obtain ⟨hl, ⟨rfl, h0⟩ | ⟨g, cap, cur, rfl, _, hg, hn, _, hsz, htk⟩⟩ := h
 ·exact ⟨none, 0, by rw [h0], fun h => by omega⟩
 ·refine ⟨_, cap, rfl, fun _ => ⟨g, rfl, ?_, fun i hi => ?_⟩⟩
  ·rcases Nat.lt_or_ge g w.heap.size with c | c
   ·exact c
   ·rw [Array.getElem?_eq_none c] at hg; cases hg
  ·rw [Lib.cell_of_heap hg]
   have e : (cur.toList.take (fs.length * 1))[i]? = (strCellsL fs)[i]? := by rw [htk]
   rw [List.getElem?_take_of_lt (by omega)] at e
   simp only [Array.getElem?_toList] at e
   rw [e]
   unfold strCellsL
   simp [hi]
end Go.Proofs.YtmpbjaodgajnfaaGreatDoor
namespace Go.Proofs.YtmpbjaodgajnfaaGreatDoor
open Go.RowKit
def CodesAt (w : World) (g : Nat) : Prop := g < w.heap.size ∧ w.frozen? ⟨g, 1, none⟩ = false ∧ ∃ a cap, ∃ cs : List UInt8, ∃ k : Nat, w.cell? ⟨g, 0, none⟩ = some (.slice a cs.length cap) ∧ w.cell? ⟨g, 1, none⟩ = some (.int .i64 k) ∧
 k ≤ cs.length ∧ cs.length ≤ 1000 ∧ (0 < cs.length → ∃ blk off, a = some ⟨blk, off, none⟩ ∧ blk < g ∧ BA w blk off cs)
def Apart (g : Nat) (w w' : World) : Prop := Below g w w' ∧ ∀ k, g < k → k < w.heap.size → w'.heap[k]? = w.heap[k]?
theorem Apart.refl (g : Nat) (w : World) : Apart g w w := ⟨Below.refl _ _, fun _ _ _ => rfl⟩
theorem Apart.trans {g : Nat} {a b c : World} (h : Apart g a b) (k : Apart g b c) : Apart g a c := ⟨h.1.trans k.1, fun i h1 h2 => (k.2 i h1 (Nat.lt_of_lt_of_le h2 h.1.size)).trans (h.2 i h1 h2)⟩
theorem Apart.block {g : Nat} {w w' : World} (h : Apart g w w') {k : Nat} (hk : k ≠ g) (hl : k < w.heap.size) : w'.heap[k]? = w.heap[k]? := by
 rcases Nat.lt_or_gt_of_ne hk with h1 | h1
 ·exact h.1.block k h1
 ·exact h.2 k h1 hl
theorem Apart.cell {g : Nat} {w w' : World} (h : Apart g w w') {p : Addr} (hk : p.block ≠ g) (hl : p.block < w.heap.size) : w'.cell? p = w.cell? p := World.cell?_of_block (w := w) (h.block hk hl)
theorem Apart.of_below {g : Nat} {w w' : World} (h : Below w.heap.size w w') (hg : g < w.heap.size) : Apart g w w' := ⟨h.mono (Nat.le_of_lt hg), fun k _ hk => h.block k hk⟩
theorem Apart.below {g B : Nat} {w0 w w' : World} (h : Below B w0 w) (k : Apart g w w') (hB : B ≤ g) : Below B w0 w' := h.trans (k.1.mono hB)
theorem CodesAt.below {w w' : World} {g : Nat} (h : CodesAt w g) (hb : Below w.heap.size w w') : CodesAt w' g := by
 obtain ⟨h1, h2, a, cap, cs, k, c0, c1, hk, hl, hc⟩ := h
 refine ⟨Nat.lt_of_lt_of_le h1 hb.size, (hb.frozen (p := ⟨g, 1, none⟩) h1).trans h2, a, cap, cs, k, (hb.cell (p := ⟨g, 0, none⟩) h1).trans c0, (hb.cell (p := ⟨g, 1, none⟩) h1).trans c1, hk, hl, fun h0 => ?_⟩
 obtain ⟨blk, off, e, hlt, hba⟩ := hc h0
 exact ⟨blk, off, e, hlt, hba.below fun i _ => hb.cell (p := ⟨blk, off + i, none⟩) (Nat.lt_trans hlt h1)⟩
theorem CodesAt.of_below {w w' : World} {g B : Nat} (h : CodesAt w g) (hB : g < B) (hb : Below B w w') : CodesAt w' g := by
 obtain ⟨h1, h2, a, cap, cs, k, c0, c1, hk, hl, hc⟩ := h
 refine ⟨Nat.lt_of_lt_of_le h1 hb.size, (hb.frozen (p := ⟨g, 1, none⟩) hB).trans h2, a, cap, cs, k, (hb.cell (p := ⟨g, 0, none⟩) hB).trans c0, (hb.cell (p := ⟨g, 1, none⟩) hB).trans c1, hk, hl, fun h0 => ?_⟩
 obtain ⟨blk, off, e, hlt, hba⟩ := hc h0
 exact ⟨blk, off, e, hlt, hba.below fun i _ => hb.cell (p := ⟨blk, off + i, none⟩) (Nat.lt_trans hlt hB)⟩
theorem own_keep {W W' : World} {B E s n : Nat} {v : Value} {xs : List Value} (h : W.ownsRow B E s v n xs) (hb : ∀ k, B ≤ k → k < W.heap.size → W'.heap[k]? = W.heap[k]?) : W'.ownsRow B E s v n xs := by
 obtain ⟨h1, h2⟩ := h
 refine ⟨h1, h2.imp id ?_⟩
 rintro ⟨g, cap, cur, rfl, hB, hg, rest⟩
 refine ⟨g, cap, cur, rfl, hB, ?_, rest⟩
 rw [hb g hB ?_]
 ·exact hg
 ·rcases Nat.lt_or_ge g W.heap.size with c | c
  ·exact c
  ·rw [Array.getElem?_eq_none c] at hg; cases hg
end Go.Proofs.YtmpbjaodgajnfaaGreatDoor
namespace Go.Proofs.YtmpbjaodgajnfaaGreatDoor
open Go.RowKit
def Stay (F F' : Nat → Prop) (w w' : World) : Prop := w.heap.size ≤ w'.heap.size ∧ ∀ k, F k → k < w.heap.size → F' k ∧ w'.heap[k]? = w.heap[k]?
theorem Stay.cell {F F' : Nat → Prop} {w w' : World} (h : Stay F F' w w') {p : Addr} (hp : F p.block) (hl : p.block < w.heap.size) : w'.cell? p = w.cell? p := World.cell?_of_block (w := w) (w' := w') (h.2 _ hp hl).2
def RW {α : Type} (F : Nat → Prop) (k : Nat) (R : α → List Value → Prop) (w : World) (xs : List α) (v : Value) : Prop :=
 ∃ a c, v = .slice a xs.length c ∧ (xs.length ≤ 1000000 ∧ (a = none → c = 0)) ∧ (0 < xs.length → ∃ blk off, a = some ⟨blk, off, none⟩ ∧ blk < w.heap.size ∧ F blk ∧ ∀ i (h : i < xs.length), ∃ us : List Value,
  us.length = k ∧ (∀ j, j < k → w.cell? ⟨blk, off + i * k + j, none⟩ = us[j]?) ∧ R xs[i] us)
theorem RW.go {α : Type} {F F' : Nat → Prop} {k : Nat} {R R' : α → List Value → Prop} {w w' : World} (hs : Stay F F' w w') (hR : ∀ x us, R x us → R' x us) {xs : List α} {v : Value} (h : RW F k R w xs v) : RW F' k R' w' xs v := by
 obtain ⟨a, c, e, hm, hk⟩ := h
 refine ⟨a, c, e, hm, fun h0 => ?_⟩
 obtain ⟨blk, off, e1, hl, hF, hc⟩ := hk h0
 refine ⟨blk, off, e1, Nat.lt_of_lt_of_le hl hs.1, (hs.2 _ hF hl).1, fun i hi => ?_⟩
 obtain ⟨us, hu, hcell, hr⟩ := hc i hi
 exact ⟨us, hu, fun j hj => (hs.cell (p := ⟨blk, off + i * k + j, none⟩) hF hl).trans (hcell j hj), hR _ _ hr⟩
theorem RW.nil {α : Type} {F : Nat → Prop} {k : Nat} {R : α → List Value → Prop} {w : World} : RW F k R w [] (.slice none 0 0) := ⟨none, 0, rfl, ⟨by simp, fun _ => rfl⟩, fun h => by simp at h⟩
structure OR {α : Type} (B : Nat) (e : TypeId) (k : Nat) (R : α → List Value → Prop) (W : World) (xs : List α) (v : Value) : Prop where
 row : ∃ uss : List (List Value), uss.length = xs.length ∧ (∀ i (h : i < xs.length) (h' : i < uss.length), uss[i].length = k ∧ R xs[i] uss[i]) ∧ W.ownsRow B e k v xs.length uss.flatten
 size : xs.length ≤ 1000000
theorem flat_at (k : Nat) : ∀ (uss : List (List Value)), (∀ u ∈ uss, u.length = k) → ∀ i j (h : i < uss.length), j < k → uss.flatten[i * k + j]? = uss[i][j]?
 | [], _, i, j, h, _ => by simp at h
 | u :: us, hu, i, j, h, hj => by
  have h0 : u.length = k := hu u (by simp)
  cases i with
  | zero =>
   rw [List.flatten_cons, List.getElem?_append_left (by omega)]
   simp
  | succ i =>
   rw [List.flatten_cons, List.getElem?_append_right (by rw [h0, Nat.succ_mul]; omega), h0, show (i + 1) * k + j - k = i * k + j by rw [Nat.succ_mul]; omega]
   exact flat_at k us (fun x hx => hu x (List.mem_cons_of_mem _ hx)) i j (by simpa using h) hj
theorem OR.rw {α : Type} {B : Nat} {e : TypeId} {k : Nat} {R : α → List Value → Prop} {W : World} {xs : List α} {v : Value} (h : OR B e k R W xs v) {F : Nat → Prop} (hF : ∀ b, B ≤ b → F b) : RW F k R W xs v := by
 obtain ⟨⟨uss, hlen, hel, _, h0 | ⟨g, cap, cur, rfl, hB, hg, hrest⟩⟩, hsz⟩ := h
 ·obtain ⟨h1, h2⟩ := h0
  subst h1
  exact ⟨none, 0, by rw [h2], ⟨hsz, fun _ => rfl⟩, fun h => by omega⟩
 ·have hs : g < W.heap.size := by
   rcases Nat.lt_or_ge g W.heap.size with c | c
   ·exact c
   ·rw [Array.getElem?_eq_none c] at hg; cases hg
  obtain ⟨_, _, hcs, htk⟩ := hrest
  have hall : ∀ u ∈ uss, u.length = k := fun u hu => by
   obtain ⟨i, hi, rfl⟩ := List.getElem_of_mem hu
   exact (hel i (by omega) hi).1
  refine ⟨_, cap, rfl, ⟨hsz, fun e => by cases e⟩, fun _ => ⟨g, 0, rfl, hs, hF g hB, fun i hi => ⟨uss[i]'(by omega), (hel i hi (by omega)).1, fun j hj => ?_, (hel i hi (by omega)).2⟩⟩⟩
  rw [Lib.cell_of_heap hg, ← flat_at k uss hall i j (by omega) hj, ← htk, List.getElem?_take_of_lt, Nat.zero_add]
  ·simp
  ·have : (i + 1) * k ≤ xs.length * k := Nat.mul_le_mul_right _ hi
   rw [Nat.succ_mul] at this
   omega
theorem OR.nil {α : Type} {B : Nat} {e : TypeId} {k : Nat} {R : α → List Value → Prop} {W : World} : OR B e k R W [] (.slice none 0 0) :=
 ⟨⟨[], rfl, fun i h => by simp at h, by simp, .inl ⟨rfl, rfl⟩⟩, by simp⟩
theorem OR.keep {α : Type} {B : Nat} {e : TypeId} {k : Nat} {R R' : α → List Value → Prop} {W W' : World} {xs : List α} {v : Value} (h : OR B e k R W xs v) (hb : ∀ j, B ≤ j → j < W.heap.size → W'.heap[j]? = W.heap[j]?) (hR : ∀ x us, R x us → R' x us) : OR B e k R' W' xs v := by
 obtain ⟨⟨uss, hlen, hel, ho⟩, hsz⟩ := h
 exact ⟨⟨uss, hlen, fun i h h' => ⟨(hel i h h').1, hR _ _ (hel i h h').2⟩, own_keep ho hb⟩, hsz⟩
theorem OR.cells {α : Type} {B : Nat} {e : TypeId} {k : Nat} {R : α → List Value → Prop} {W : World} {xs : List α} {v : Value} (h : OR B e k R W xs v) : ∃ cs : List Value, W.ownsRow B e k v xs.length cs ∧
  ∀ (R' : α → List Value → Prop) (W' : World) (x : α) (us : List Value) (v' : Value), (∀ x us, R x us → R' x us) → us.length = k → R' x us → xs.length + 1 ≤ 1000000 → W'.ownsRow B e k v' (xs.length + 1) (cs ++ us) → OR B e k R' W' (xs ++ [x]) v' := by
 obtain ⟨⟨uss, hlen, hel, ho⟩, hsz⟩ := h
 refine ⟨uss.flatten, ho, fun R' W' x us v' hR hu hx hs hW => ⟨⟨uss ++ [us], by simp [hlen], fun i h h' => ?_, by rw [List.length_append, List.flatten_append]; simpa using hW⟩, by simpa using hs⟩⟩
 by_cases hi : i < xs.length
 ·rw [List.getElem_append_left hi, List.getElem_append_left (by omega)]
  exact ⟨(hel i hi (by omega)).1, hR _ _ (hel i hi (by omega)).2⟩
 ·obtain rfl : i = xs.length := by simp at h; omega
  rw [List.getElem_append_right (by omega), List.getElem_append_right (by omega)]
  simp [hlen, hu, hx]
structure GD (g : Nat) (w W : World) : Prop where
 ap : Apart g w W
 codes : CodesAt W g
 hg : g < w.heap.size
theorem GD.start {g : Nat} {w : World} (h : CodesAt w g) : GD g w w := ⟨Apart.refl _ _, h, h.1⟩
theorem GD.go {g : Nat} {w W W' : World} (h : GD g w W) (ha : Apart g W W') (hc : CodesAt W' g) : GD g w W' := ⟨h.ap.trans ha, hc, h.hg⟩
theorem GD.on {g : Nat} {w W W' : World} (h : GD g w W) (hb : Below w.heap.size W W') : GD g w W' :=
 ⟨⟨h.ap.1.trans (hb.mono (Nat.le_of_lt h.hg)), fun k h1 h2 => (hb.block k h2).trans (h.ap.2 k h1 h2)⟩, h.codes.of_below h.hg hb, h.hg⟩
theorem GD.al {g : Nat} {w W : World} (h : GD g w W) (o : Obj) : GD g w (W.alloc o) := h.on ((Below.refl _ W).alloc h.ap.1.size o)
theorem GD.dr {g : Nat} {w W : World} (h : GD g w W) : GD g w W.drew := h.on (Below.refl _ W).drew
theorem GD.set {g : Nat} {w W : World} (h : GD g w W) {b : Nat} (hb : w.heap.size ≤ b) (i : Nat) (v : Value) : GD g w (W.setCell ⟨b, i, none⟩ v) := h.on ((Below.refl _ W).setCell (p := ⟨b, i, none⟩) hb v)
theorem GD.le {g : Nat} {w W : World} (h : GD g w W) : w.heap.size ≤ W.heap.size := h.ap.1.size
def Upd (E : Nat → Value) (i : Nat) (v : Value) : Nat → Value := fun j => if j = i then v else E j
structure BK (b n : Nat) (E : Nat → Value) (W : World) : Prop where
 ev : ∀ i, i < n → W.cell? ⟨b, i, none⟩ = some (E i)
 fz : ∀ i, W.frozen? ⟨b, i, none⟩ = false
 lt : b < W.heap.size
theorem BK.keep {b n : Nat} {E : Nat → Value} {W W' : World} (h : BK b n E W) (hh : W'.heap[b]? = W.heap[b]?) (hs : W.heap.size ≤ W'.heap.size) : BK b n E W' :=
 ⟨fun i hi => (World.cell?_of_block (w := W) (w' := W') (a := ⟨b, i, none⟩) hh).trans (h.ev i hi), fun i => (World.frozen?_of_block (w := W) (w' := W') (a := ⟨b, i, none⟩) hh).trans (h.fz i), Nat.lt_of_lt_of_le h.lt hs⟩
theorem BK.go {b n g : Nat} {E : Nat → Value} {W W' : World} (h : BK b n E W) (ha : Apart g W W') (hn : b ≠ g) : BK b n E W' := h.keep (ha.block hn h.lt) ha.1.size
theorem BK.on {b n B : Nat} {E : Nat → Value} {W W' : World} (h : BK b n E W) (hb : Below B W W') (hn : b < B) : BK b n E W' := h.keep (hb.block b hn) hb.size
theorem BK.al {b n : Nat} {E : Nat → Value} {W : World} (h : BK b n E W) (o : Obj) : BK b n E (W.alloc o) := h.on ((Below.refl _ W).alloc (Nat.le_refl _) o) h.lt
theorem BK.dr {b n : Nat} {E : Nat → Value} {W : World} (h : BK b n E W) : BK b n E W.drew := h.on (Below.refl _ W).drew h.lt
theorem BK.other {b n b' : Nat} {E : Nat → Value} {W : World} (h : BK b n E W) (hn : b ≠ b') (i : Nat) (v : Value) : BK b n E (W.setCell ⟨b', i, none⟩ v) := h.keep (Below.heap_setCell _ _ _ b (by simpa using hn)) (by simp)
theorem BK.set {b n : Nat} {E : Nat → Value} {W : World} (h : BK b n E W) (i : Nat) (hi : i < n) (v : Value) : BK b n (Upd E i v) (W.setCell ⟨b, i, none⟩ v) := by
 refine ⟨fun j hj => ?_, fun j => by rw [World.frozen?_setCell]; exact h.fz j, by simpa using h.lt⟩
 unfold Upd
 by_cases e : j = i
 ·subst e
  rw [if_pos rfl]
  exact World.cell?_setCell_same _ _ _ (h.ev j hj)
 ·rw [if_neg e, World.cell?_setCell_other _ _ _ _ (by intro hh; simp only [Addr.mk.injEq] at hh; omega)]
  exact h.ev j hj
theorem BK.cong {b n : Nat} {E E' : Nat → Value} {W : World} (h : BK b n E W) (he : ∀ i, i < n → E i = E' i) : BK b n E' W := ⟨fun i hi => (h.ev i hi).trans (congrArg some (he i hi)), h.fz, h.lt⟩
theorem BK.new (W : World) (cs : Array Value) (t : TypeId) (E : Nat → Value) (n : Nat) (he : ∀ i, i < n → cs[i]? = some (E i)) : BK W.heap.size n E (W.alloc (.cells cs t)) :=
 ⟨fun i hi => by rw [← he i hi]; simp [go_sem], fun i => by simp [go_sem], by simp⟩
def setL (W : World) (b : Nat) : List Value → Nat → World
 | [], _ => W
 | v :: vs, i => setL (W.setCell ⟨b, i, none⟩ v) b vs (i + 1)
theorem setL_below {B b : Nat} (hB : B ≤ b) (vs : List Value) : ∀ (W : World) (i : Nat), Below B W (setL W b vs i) := by
 induction vs with
 | nil => intro W i; exact Below.refl _ _
 | cons v vs ih => intro W i; exact ((Below.refl _ W).setCell (p := ⟨b, i, none⟩) hB v).trans (ih _ _)
theorem setL_heap {b k : Nat} (vs : List Value) (hk : k ≠ b) : ∀ (W : World) (i : Nat), (setL W b vs i).heap[k]? = W.heap[k]? := by
 induction vs with
 | nil => intro W i; rfl
 | cons v vs ih => intro W i; exact (ih _ _).trans (Below.heap_setCell _ _ _ k (fun e => hk e))
theorem setL_other {b : Nat} (vs : List Value) : ∀ (W : World) (i j : Nat), j < i → (setL W b vs i).cell? ⟨b, j, none⟩ = W.cell? ⟨b, j, none⟩ := by
 induction vs with
 | nil => intro W i j _; rfl
 | cons v vs ih =>
  intro W i j h
  rw [setL, ih _ _ _ (by omega), World.cell?_setCell_other _ _ _ _ (by intro e; simp only [Addr.mk.injEq] at e; omega)]
theorem setL_at {b : Nat} (vs : List Value) : ∀ (W : World) (i : Nat), (∀ j, i ≤ j → j < i + vs.length → ∃ u, W.cell? ⟨b, j, none⟩ = some u) → ∀ j v, vs[j]? = some v → (setL W b vs i).cell? ⟨b, i + j, none⟩ = some v := by
 induction vs with
 | nil => intro W i _ j v h; simp at h
 | cons x vs ih =>
  intro W i hx j v h
  rw [setL]
  cases j with
  | zero =>
   simp at h
   subst h
   show (setL (W.setCell ⟨b, i, none⟩ x) b vs (i + 1)).cell? ⟨b, i, none⟩ = some x
   rw [setL_other vs _ (i + 1) i (Nat.lt_succ_self i)]
   obtain ⟨u, hu⟩ := hx i (Nat.le_refl _) (by simp)
   exact World.cell?_setCell_same _ _ _ hu
  | succ j =>
   rw [show i + (j + 1) = i + 1 + j by omega]
   refine ih _ _ (fun k h1 h2 => ?_) j v (by simpa using h)
   obtain ⟨u, hu⟩ := hx k (by omega) (by simp; omega)
   exact ⟨u, by rw [World.cell?_setCell_other _ _ _ _ (by intro e; simp only [Addr.mk.injEq] at e; omega)]; exact hu⟩
theorem results_item {P : Program} {fn : Func} {p : Tmp} {ty : TypeId} (h : fn.results = #[.cell p ty]) (tmps : Array Value) (w : World) (g : Nat) (cs : List Value) (d : TypeDesc)
  (hp : tmps.getD p undef = .pointer (some ⟨g, 0, none⟩)) (hc : ∀ j v, cs[j]? = some v → w.cell? ⟨g, j, none⟩ = some v)
  (hu : P.underlying ty = some d) (hd : (match d with | .struct _ | .array _ _ => true | _ => false) = true) (hi : (P.info? ty).map (·.size) = some cs.length) :
  (results fn tmps).run P w = .ok (.agg cs.toArray) w := by
 have hl : (loadCells ⟨g, 0, none⟩ cs.length).run P w = .ok cs.toArray w :=
  run_loadCells_list (P := P) w ⟨g, 0, none⟩ cs (fun j v hv => by
   have hadd : (⟨g, 0, none⟩ : Addr).add j = ⟨g, j, none⟩ := by unfold Addr.add; split <;> simp_all
   rw [hadd]
   exact hc j v hv)
 have hv : (loadVar ty ⟨g, 0, none⟩).run P w = .ok (.agg cs.toArray) w := by
  cases hq : P.info? ty with
  | none => simp [hq] at hi
  | some i =>
   have hs : i.size = cs.length := by simpa [hq] using hi
   have hagg : (isAgg ty).run P w = .ok true w := by
    unfold isAgg
    rw [Sem.run_bind, run_underlying hu w]
    cases d <;> simp_all
   simp [loadVar, Sem.run_bind, hagg, sizeOf, typeInfo, hq, hs, hl]
 have hp' : tmps[p]?.getD undef = .pointer (some ⟨g, 0, none⟩) := by simpa using hp
 simp [results, h, hp', asAddr, hv]
theorem OR.lit {α : Type} {B : Nat} {e : TypeId} {k : Nat} {R : α → List Value → Prop} (W : World) (x : α) (us : List Value) (hB : B ≤ W.heap.size) (hu : us.length = k) (hx : R x us) :
  OR B e k R (W.alloc (.cells us.toArray e)) [x] (.slice (some ⟨W.heap.size, 0, none⟩) 1 1) := by
 refine ⟨⟨[us], rfl, fun i h h' => ?_, by simp [hu], .inr ⟨W.heap.size, 1, us.toArray, rfl, hB, heap_alloc_new W _, by simp, by unfold maxLen; omega, by simp [hu], by rw [← hu]; simp⟩⟩, by simp⟩
 simp only [List.length_singleton] at h
 obtain rfl : i = 0 := by omega
 exact ⟨hu, hx⟩
theorem setL_size {b : Nat} (vs : List Value) : ∀ (W : World) (i : Nat), (setL W b vs i).heap.size = W.heap.size := by
 induction vs with
 | nil => intro W i; rfl
 | cons v vs ih => intro W i; rw [setL, ih]; simp
def FF (G : Nat → Prop) (v : Value) : Nat → Prop := fun k => G k ∧ v.ownBlock ≠ some k
theorem FF.nil (G : Nat → Prop) : FF G (.slice none 0 0) = G := by
 funext k
 simp [FF, Value.ownBlock]
theorem push_stay {G : Nat → Prop} {W W' : World} {o : Obj} {v : Value} {g n cap : Nat} (hgr : (W.alloc o).grownBy W' v.ownBlock) (hat : v.ownBlock = some g ∨ W.heap.size ≤ g) :
  Stay (FF G v) (FF G (.slice (some ⟨g, 0, none⟩) n cap)) W W' := by
 refine ⟨Nat.le_trans (by simp) hgr.size, fun k hk hl => ⟨⟨hk.1, fun e => ?_⟩, ?_⟩⟩
 ·simp only [Value.ownBlock, Option.some.injEq] at e
  subst e
  rcases hat with h | h
  ·exact hk.2 h
  ·omega
 ·exact (hgr.block k (by simp; omega) (fun e => hk.2 e.symm)).trans (((Below.refl _ W).alloc (Nat.le_refl _) o).block k hl)
theorem push_below {W W' : World} {o : Obj} {v : Value} {B n : Nat} {e : TypeId} {s : Nat} {xs : List Value} (hgr : (W.alloc o).grownBy W' v.ownBlock) (hown : W.ownsRow B e s v n xs) (hB : B ≤ W.heap.size) : Below B W W' :=
 ((Below.refl _ W).alloc hB o).grown hgr (by simp; omega) (fun k hk => (hown.lt k hk).1)
structure KL {α : Type} (RR : (Nat → Prop) → World → α → List Value → Prop) (G : Nat → Prop) (b m : Nat) (E : Nat → Value) (c : Nat) (B : Nat) (e : TypeId) (k : Nat) (xs : List α) (v : Value) (W : World) : Prop where
 bk : BK b m (Upd E c v) W
 row : OR B e k (RR (FF G v) W) W xs v
 bB : b < B
 BW : B ≤ W.heap.size
section
variable {α : Type} {RR : (Nat → Prop) → World → α → List Value → Prop} {G : Nat → Prop} {b m : Nat} {E : Nat → Value} {c B : Nat} {e : TypeId} {k : Nat} {xs : List α} {v : Value} {W W' : World}
theorem KL.cell (h : KL RR G b m E c B e k xs v W) (hc : c < m) : W.cell? ⟨b, c, none⟩ = some v := by
 have := h.bk.ev c hc
 rwa [Upd, if_pos rfl] at this
theorem KL.keep (h : KL RR G b m E c B e k xs v W) (hR : ∀ x us, RR (FF G v) W x us → RR (FF G v) W' x us) (hs : W.heap.size ≤ W'.heap.size) (hb : W'.heap[b]? = W.heap[b]?) (hr : ∀ j, B ≤ j → j < W.heap.size → W'.heap[j]? = W.heap[j]?) : KL RR G b m E c B e k xs v W' :=
 ⟨h.bk.keep hb hs, h.row.keep hr hR, h.bB, Nat.le_trans h.BW hs⟩
theorem KL.go {g : Nat} (h : KL RR G b m E c B e k xs v W) (ha : Apart g W W') (hg : g < b) (hG : ¬ G g) (hRR : ∀ (F F' : Nat → Prop) (w w' : World), Stay F F' w w' → ∀ x us, RR F w x us → RR F' w' x us) : KL RR G b m E c B e k xs v W' :=
 h.keep (hRR _ _ _ _ ⟨ha.1.size, fun j hj hl => ⟨hj, ha.block (fun e => hG (e ▸ hj.1)) hl⟩⟩) ha.1.size (ha.block (Nat.ne_of_gt hg) h.bk.lt) (fun j h1 h2 => ha.block (by have := h.bB; omega) h2)
theorem KL.push {g' n' cap : Nat} {o : Obj} (h : KL RR G b m E c B e k xs v W) (hc : c < m) (hGb : ¬ G b) (hgr : (W.alloc o).grownBy W' v.ownBlock) (hat : v.ownBlock = some g' ∨ W.heap.size ≤ g') (cs : List Value)
  (hcs : W.ownsRow B e k v xs.length cs)
  (hpush : ∀ (R' : α → List Value → Prop) (W' : World) (x : α) (us : List Value) (v' : Value), (∀ x us, RR (FF G v) W x us → R' x us) → us.length = k → R' x us → xs.length + 1 ≤ 1000000 → W'.ownsRow B e k v' (xs.length + 1) (cs ++ us) → OR B e k R' W' (xs ++ [x]) v')
  (hRR : ∀ (F F' : Nat → Prop) (w w' : World), Stay F F' w w' → ∀ x us, RR F w x us → RR F' w' x us) (x : α) (us : List Value) (hu : us.length = k) (hx : RR (FF G v) W x us) (hl : xs.length + 1 ≤ 1000000)
  (ho : W'.ownsRow B e k (.slice (some ⟨g', 0, none⟩) n' cap) (xs.length + 1) (cs ++ us)) :
  KL RR G b m E c B e k (xs ++ [x]) (.slice (some ⟨g', 0, none⟩) n' cap) (W'.setCell ⟨b, c, none⟩ (.slice (some ⟨g', 0, none⟩) n' cap)) := by
 have hst := push_stay (G := G) (n := n') (cap := cap) hgr hat
 have hB := push_below hgr hcs h.BW
 have hset : ∀ j, j ≠ b → (W'.setCell ⟨b, c, none⟩ (.slice (some ⟨g', 0, none⟩) n' cap)).heap[j]? = W'.heap[j]? := fun j hj => Below.heap_setCell _ _ _ j (by simpa using hj)
 have hst2 : Stay (FF G v) (FF G (.slice (some ⟨g', 0, none⟩) n' cap)) W (W'.setCell ⟨b, c, none⟩ (.slice (some ⟨g', 0, none⟩) n' cap)) :=
  ⟨by simpa using hst.1, fun j hj hl => ⟨(hst.2 j hj hl).1, (hset j (fun e => hGb (e ▸ hj.1))).trans (hst.2 j hj hl).2⟩⟩
 refine ⟨(((h.bk.on hB h.bB).set c hc _).cong fun i hi => ?_), ?_, h.bB, by simpa using Nat.le_trans h.BW hB.size⟩
 ·unfold Upd
  split <;> rfl
 ·exact hpush _ _ x us _ (hRR _ _ _ _ hst2) hu (hRR _ _ _ _ hst2 _ _ hx) hl (own_keep ho fun j h1 _ => hset j (by have := h.bB; omega))
end
theorem OR.own {α : Type} {B : Nat} {e : TypeId} {k : Nat} {R R' : α → List Value → Prop} {W W' : World} {xs : List α} {v : Value} (h : OR B e k R W xs v) (hb : ∀ j, v.ownBlock = some j → W'.heap[j]? = W.heap[j]?) (hR : ∀ x us, R x us → R' x us) (B' : Nat) (hB : B' ≤ B) : OR B' e k R' W' xs v := by
 obtain ⟨⟨uss, hlen, hel, h0, ho⟩, hsz⟩ := h
 refine ⟨⟨uss, hlen, fun i h h' => ⟨(hel i h h').1, hR _ _ (hel i h h').2⟩, h0, ho.imp id ?_⟩, hsz⟩
 rintro ⟨g', cap, cur, rfl, hb', hg', hrest⟩
 exact ⟨g', cap, cur, rfl, Nat.le_trans hB hb', (hb g' rfl).trans hg', hrest⟩
theorem OR.lt {α : Type} {B : Nat} {e : TypeId} {k : Nat} {R : α → List Value → Prop} {W : World} {xs : List α} {v : Value} (h : OR B e k R W xs v) {j : Nat} (hj : v.ownBlock = some j) : B ≤ j ∧ j < W.heap.size := by
 obtain ⟨cs, hown, _⟩ := h.cells
 exact hown.lt j hj
theorem FF.stay {F F' : Nat → Prop} {w w' : World} (hs : Stay F F' w w') (v : Value) : Stay (FF F v) (FF F' v) w w' := ⟨hs.1, fun k hk hl => ⟨⟨(hs.2 k hk.1 hl).1, hk.2⟩, (hs.2 k hk.1 hl).2⟩⟩
theorem setCells_setL (b : Nat) : ∀ (vs : List Value) (i : Nat) (W : World), W.setCells b i vs = setL W b vs i
 | [], _, _ => rfl
 | v :: vs, i, W => by
  rw [World.setCells, setL, setCells_setL b vs (i + 1)]
theorem run_append_own2 {P : Program} {w : World} (base : Nat) (t ty e : TypeId) (i : TypeInfo) (z : Value) (size bytes : Nat) (ht : P.underlying t = some (.slice e)) (hi : P.info? e = some i) (hz : i.zero = some z)
  (hsize : i.size = size) (hby : i.bytes = bytes) (hzs : z.cells.size = size) (hsz : 0 < size)
  (v : Value) (n : Nat) (xs : List Value) (hown : w.ownsRow base e size v n xs)
  (ad : Addr) (m c : Nat) (news : List Value) (hl : news.length = m * size) (hnews : ∀ j u, news[j]? = some u → w.cell? (ad.add j) = some u) (h1 : ∀ u ∈ news, u.oneCell' = true)
  (h63 : n + m ≤ maxLen) (hbytes : (n + m) * bytes ≤ 140737488355328) (hbase : base ≤ w.heap.size) :
  ∃ v' w', (Builtin.append_ #[t, t] ty #[v, .slice (some ad) m c]).run P w = .ok v' w' ∧ w'.ownsRow base e size v' (n + m) (xs ++ news) ∧ w.grownBy w' v.ownBlock ∧
   (∀ k idx, k < w.heap.size → (v.ownBlock = some k → idx < n * size) → w'.cell? ⟨k, idx, none⟩ = w.cell? ⟨k, idx, none⟩) ∧ (∀ k, v'.ownBlock = some k → v.ownBlock = some k ∨ w.heap.size ≤ k) := by
 obtain ⟨v', w', hr, h2, h3, h4⟩ := run_append_own (P := P) w base t ty e i z size bytes ht hi hz hsize hby hzs hsz v n xs hown ad m c news hl hnews h1 h63 hbytes hbase
 have hcase : (∃ g cap, v = .slice (some ⟨g, 0, none⟩) n cap ∧ v' = .slice (some ⟨g, 0, none⟩) (n + m) cap ∧ w' = w.setCells g (0 + n * size) news) ∨ ((w.grownBy w' none) ∧ ∀ k, v'.ownBlock = some k → w.heap.size ≤ k) := by
  rcases hown.2 with ⟨rfl, rfl⟩ | ⟨g, cap, cur, rfl, hb, hg, hnc, hcm, hcs, htake⟩
  ·right
   obtain ⟨v2, w2, hr2, h5, h6, _⟩ := run_append_own (P := P) w w.heap.size t ty e i z size bytes ht hi hz hsize hby hzs hsz (.slice none 0 0) 0 [] (World.ownsRow_nil w _ e size) ad m c news hl hnews h1 h63 hbytes (Nat.le_refl _)
   rw [hr] at hr2
   injection hr2 with e1 e2
   subst e1 e2
   exact ⟨h6, fun k hk => (h5.lt k hk).1⟩
  ·by_cases hroom : n + m ≤ cap
   ·left
    subst hsize
    have hcells : ∀ j, j < news.length → (w.cell? ⟨g, 0 + n * i.size + j, none⟩).isSome = true := fun j hj => by
     rw [cell_of_row w g _ cur e (0, 0) hg]
     have : 0 + n * i.size + j < cur.size := by
      rw [hcs]
      have h8 : (n + m) * i.size ≤ cap * i.size := Nat.mul_le_mul_right _ hroom
      rw [Nat.add_mul] at h8
      omega
     rw [Array.getElem?_eq_getElem this]
     rfl
    have hr2 := run_append_room_cells (P := P) w t ty e i ht hi g 0 n cap ad m c news hl hnews h1 hroom hcells (fun j _ => Lib.frozen_of_heap hg _)
    rw [hr] at hr2
    injection hr2 with e1 e2
    exact ⟨g, cap, rfl, e1, e2⟩
   ·right
    have holds : ∀ j u, xs[j]? = some u → w.cell? ((⟨g, 0, none⟩ : Addr).add j) = some u := hown.cells rfl
    obtain ⟨v2, w2, hr2, h5, h6⟩ := run_append_arg_grows (P := P) w t ty e i z size bytes ht hi hz hsize hby hzs hsz ⟨g, 0, none⟩ n cap xs hown.1 holds ad m c news hl hnews (by omega) h63 hbytes
    rw [hr] at hr2
    injection hr2 with e1 e2
    subst e1 e2
    exact ⟨h6, fun k hk => (h5.lt k hk).1⟩
 refine ⟨v', w', hr, h2, h3, fun k idx hk hidx => ?_, fun k hk => ?_⟩
 ·rcases hcase with ⟨g, cap, rfl, rfl, rfl⟩ | ⟨hg, _⟩
  ·rw [setCells_setL]
   by_cases e : k = g
   ·subst e
    exact setL_other _ _ _ _ (by have := hidx rfl; omega)
   ·exact World.cell?_of_block (setL_heap _ e _ _)
  ·exact World.cell?_of_block (hg.block k hk (by simp))
 ·rcases hcase with ⟨g, cap, rfl, rfl, rfl⟩ | ⟨_, hg⟩
  ·exact .inl hk
  ·exact .inr (hg k hk)
end Go.Proofs.YtmpbjaodgajnfaaGreatDoor
namespace Go.Proofs
open Go.Shelf
def Tryz.lays156_ren : Go.Shelf.Ren := ⟨fun | 156 => 55 | 165 => 78 | 166 => 79 | 169 => 80 | 240 => 107 | 241 => 108 | 276 => 133 | 277 => 134 | n => n, fun | 31 => 29 | 9 => 9 | 3 => 3 | 4 => 4 | 0 => 0 | 20 => 20 | 72 => 136 | 76 => 140 | 70 => 134 | 37 => 22 | 75 => 139 | 127 => 171 | 164 => 198 | 5 => 5 | 80 => 124 | n => n, fun | n => n⟩
theorem Tryz.lays156 : Go.Proofs.Lays.n156 Tryz.prog Tryz.lays156_ren := {
 mixed := by kernel_rfl
 f156 := Tryz.func55.trans (congrArg some (by kernel_rfl))
 f165 := Tryz.func78.trans (congrArg some (by kernel_rfl))
 f166 := Tryz.func79.trans (congrArg some (by kernel_rfl))
 f169 := Tryz.func80.trans (congrArg some (by kernel_rfl))
 f240 := Tryz.func107.trans (congrArg some (by kernel_rfl))
 f241 := Tryz.func108.trans (congrArg some (by kernel_rfl))
 f276 := Tryz.func133.trans (congrArg some (by kernel_rfl))
 f277 := Tryz.func134.trans (congrArg some (by kernel_rfl))
 t0 := Tryz.underlying0
 a0 := Tryz.isAgg0
 z0 := Tryz.sizeOf0
 v0 := Tryz.zeroValue0
 t3 := Tryz.underlying3
 a3 := Tryz.isAgg3
 z3 := Tryz.sizeOf3
 v3 := Tryz.zeroValue3
 t4 := Tryz.underlying4
 a4 := Tryz.isAgg4
 z4 := Tryz.sizeOf4
 v4 := Tryz.zeroValue4
 t9 := Tryz.underlying9
 a9 := Tryz.isAgg9
 z9 := Tryz.sizeOf9
 v9 := Tryz.zeroValue9
 t20 := Tryz.underlying20
 a20 := Tryz.isAgg20
 z20 := Tryz.sizeOf20
 v20 := Tryz.zeroValue20
 t31 := Tryz.underlying29
 a31 := Tryz.isAgg29
 z31 := Tryz.sizeOf29
 v31 := Tryz.zeroValue29
 t37 := Tryz.underlying22
 a37 := Tryz.isAgg22
 z37 := Tryz.sizeOf22
 v37 := Tryz.zeroValue22
 t70 := Tryz.underlying134
 a70 := Tryz.isAgg134
 z70 := Tryz.sizeOf134
 v70 := Tryz.zeroValue134
 t72 := Tryz.underlying136
 a72 := Tryz.isAgg136
 z72 := Tryz.sizeOf136
 v72 := Tryz.zeroValue136
 t75 := Tryz.underlying139
 a75 := Tryz.isAgg139
 z75 := Tryz.sizeOf139
 v75 := Tryz.zeroValue139
 t76 := Tryz.underlying140
 a76 := Tryz.isAgg140
 z76 := Tryz.sizeOf140
 v76 := Tryz.zeroValue140
 t127 := Tryz.underlying171
 a127 := Tryz.isAgg171
 z127 := Tryz.sizeOf171
 v127 := Tryz.zeroValue171
 t164 := Tryz.underlying198
 a164 := Tryz.isAgg198
 z164 := Tryz.sizeOf198
 v164 := Tryz.zeroValue198 }
theorem Tryz.Builder_Extra_156 : Builder.Extra Tryz.prog Tryz.lays156_ren := {
 sizeBuilder := by kernel_rfl
 liesBuilder := by kernel_rfl
 t5 := Tryz.underlying5
 a5 := Tryz.isAgg5
 z5 := Tryz.sizeOf5
 v5 := Tryz.zeroValue5
 infoByte := by kernel_rfl
 cellsByte := by kernel_rfl
 sizeByte := by kernel_rfl
 neB5 := by decide }
open Go.RowKit in
theorem Tryz.strings_Join_none (a : Option Addr) (c : Nat) (sep : ByteArray) (w : World) :
  Calls Tryz.prog 55 #[.slice a 0 c, .string sep] w fun e w' => e = .returned (.string ⟨#[]⟩) ∧ w' = w := Any.strings_Join_none Tryz.lays156 Tryz.Builder_Extra_156 a c sep w
open Go.RowKit in
theorem Tryz.strings_Join (bk o c : Nat) (xs : List ByteArray) (sep : ByteArray) (w : World) (hcells : ∀ (j : Nat) x, xs[j]? = some x → w.cell? ⟨bk, o + j, none⟩ = some (.string x)) (hbk : bk < w.heap.size) (hN : xs.length ≤ 140737488355328) (hcap : xs.length ≤ c) (hlen : (Lib.join (xs.map (·.data.toList)) sep.data.toList).length ≤ 140737488355328) :
  Calls Tryz.prog 55 #[.slice (some ⟨bk, o, none⟩) xs.length c, .string sep] w fun e w' => e = .returned (.string ⟨(Lib.join (xs.map (·.data.toList)) sep.data.toList).toArray⟩) ∧ Below w.heap.size w w' := Any.strings_Join Tryz.lays156 Tryz.Builder_Extra_156 bk o c xs sep w hcells hbk hN hcap hlen
def Tryz.lays106_ren : Go.Shelf.Ren := ⟨fun | 106 => 34 | 213 => 58 | 265 => 85 | n => n, fun | 9 => 9 | 3 => 3 | n => n, fun | n => n⟩
theorem Tryz.lays106 : Go.Proofs.Lays.n106 Tryz.prog Tryz.lays106_ren := {
 mixed := by kernel_rfl
 f106 := Tryz.func34.trans (congrArg some (by kernel_rfl))
 f213 := Tryz.func58.trans (congrArg some (by kernel_rfl))
 f265 := Tryz.func85.trans (congrArg some (by kernel_rfl))
 t3 := Tryz.underlying3
 a3 := Tryz.isAgg3
 z3 := Tryz.sizeOf3
 v3 := Tryz.zeroValue3
 t9 := Tryz.underlying9
 a9 := Tryz.isAgg9
 z9 := Tryz.sizeOf9
 v9 := Tryz.zeroValue9 }
open Go.RowKit in
theorem Tryz.strings_Compare (a b : ByteArray) (w : World) :
  Calls Tryz.prog 34 #[.string a, .string b] w fun e w' => e = .returned (.int .i64 (Lib.compareBytes a.data.toList b.data.toList)) ∧ w' = w := Any.strings_Compare Tryz.lays106 a b w
def Tryz.lays122_ren : Go.Shelf.Ren := ⟨fun | 122 => 116 | 215 => 141 | n => n, fun | 3 => 3 | 4 => 4 | n => n, fun | n => n⟩
theorem Tryz.lays122 : Go.Proofs.Lays.n122 Tryz.prog Tryz.lays122_ren := {
 mixed := by kernel_rfl
 f122 := Tryz.func116.trans (congrArg some (by kernel_rfl))
 f215 := Tryz.func141.trans (congrArg some (by kernel_rfl))
 t3 := Tryz.underlying3
 a3 := Tryz.isAgg3
 z3 := Tryz.sizeOf3
 v3 := Tryz.zeroValue3
 t4 := Tryz.underlying4
 a4 := Tryz.isAgg4
 z4 := Tryz.sizeOf4
 v4 := Tryz.zeroValue4 }
open Go.RowKit in
theorem Tryz.cmp_Compare_int (x y : Int) (w : World) :
  Calls Tryz.prog 116 #[.int .i64 x, .int .i64 y] w fun e w' => e = .returned (.int .i64 (Lib.compareInt x y)) ∧ w' = w := Any.cmp_Compare_int Tryz.lays122 x y w
def Tryz.lays101_ren : Go.Shelf.Ren := ⟨fun | 101 => 44 | 208 => 66 | 206 => 93 | n => n, fun | 9 => 9 | 4 => 4 | 3 => 3 | n => n, fun | n => n⟩
theorem Tryz.lays101 : Go.Proofs.Lays.n101 Tryz.prog Tryz.lays101_ren := {
 mixed := by kernel_rfl
 f101 := Tryz.func44.trans (congrArg some (by kernel_rfl))
 f206 := Tryz.func93.trans (congrArg some (by kernel_rfl))
 f208 := Tryz.func66.trans (congrArg some (by kernel_rfl))
 t3 := Tryz.underlying3
 a3 := Tryz.isAgg3
 z3 := Tryz.sizeOf3
 v3 := Tryz.zeroValue3
 t4 := Tryz.underlying4
 a4 := Tryz.isAgg4
 z4 := Tryz.sizeOf4
 v4 := Tryz.zeroValue4
 t9 := Tryz.underlying9
 a9 := Tryz.isAgg9
 z9 := Tryz.sizeOf9
 v9 := Tryz.zeroValue9 }
open Go.RowKit Go.Lib in
theorem Tryz.strings_TrimPrefix (s p : ByteArray) (w : World) :
  Calls Tryz.prog 44 #[.string s, .string p] w fun e w' => e = .returned (.string ⟨(Lib.trimPrefix s.data.toList p.data.toList).toArray⟩) ∧ w' = w := Any.strings_TrimPrefix Tryz.lays101 s p w
def Tryz.lays109_ren : Go.Shelf.Ren := ⟨fun | 109 => 106 | n => n, fun | 31 => 29 | 9 => 9 | 3 => 3 | 0 => 0 | 4 => 4 | n => n, fun | n => n⟩
theorem Tryz.lays109 : Go.Proofs.Lays.n109 Tryz.prog Tryz.lays109_ren := {
 mixed := by kernel_rfl
 f109 := Tryz.func106.trans (congrArg some (by kernel_rfl))
 t0 := Tryz.underlying0
 a0 := Tryz.isAgg0
 z0 := Tryz.sizeOf0
 v0 := Tryz.zeroValue0
 t3 := Tryz.underlying3
 a3 := Tryz.isAgg3
 z3 := Tryz.sizeOf3
 v3 := Tryz.zeroValue3
 t4 := Tryz.underlying4
 a4 := Tryz.isAgg4
 z4 := Tryz.sizeOf4
 v4 := Tryz.zeroValue4
 t9 := Tryz.underlying9
 a9 := Tryz.isAgg9
 z9 := Tryz.sizeOf9
 v9 := Tryz.zeroValue9
 t31 := Tryz.underlying29
 a31 := Tryz.isAgg29
 z31 := Tryz.sizeOf29
 v31 := Tryz.zeroValue29 }
open Go.Lib in
theorem Tryz.slices_Index_string (b off n c : Nat) (zs : List ByteArray) (x : ByteArray) (w : World) (hz : n ≤ zs.length) (hbig : n ≤ 9223372036854775807) (hc : ∀ j, j < zs.length → w.cell? ⟨b, off + j, none⟩ = some (.string (zs.getD j ByteArray.empty))) :
  Calls Tryz.prog 106 #[.slice (some ⟨b, off, none⟩) n c, .string x] w fun e w' => e = .returned (.int .i64 (Lib.idxOfS (zs.take n) x)) ∧ w' = w := Any.slices_Index_string Tryz.lays109 b off n c zs x w hz hbig hc
open Go.Lib in
theorem Tryz.slices_Index_string_empty (a : Option Addr) (c : Nat) (x : ByteArray) (w : World) :
  Calls Tryz.prog 106 #[.slice a 0 c, .string x] w fun e w' => e = .returned (.int .i64 (Lib.idxOfS [] x)) ∧ w' = w := Any.slices_Index_string_empty Tryz.lays109 a c x w
end Go.Proofs
namespace Go.Proofs.YtmpbjaodgajnfaaGreatDoor.Mt
structure Ins where
 op : Nat
 x : Nat
 y : Nat
 rs : List (UInt8 × UInt8)
abbrev Mk := Bool × Nat × Nat
abbrev Res := Option (Nat × List Mk)
def hasR (l : List (UInt8 × UInt8)) (c : UInt8) : Bool := l.any fun r => decide (r.1 ≤ c) && decide (c ≤ r.2)
def hitB (s : List UInt8) (at_ : Nat) (l : List (UInt8 × UInt8)) : Bool := match s[at_]? with
 | some c => hasR l c
 | none => false
def addM (m : Mk) (r : Res) : Res := r.map fun x => (x.1, x.2 ++ [m])
section
variable (C : List Ins) (s : List UInt8) (L : Nat)
def runF : Nat → Nat → Nat → Nat → Option Res
 | 0, _, _, _ => none
 | n + 1, pc, at_, e => if L < e then none else match C[pc]? with
  | none => none
  | some i =>
   if i.op = 0 then (if hitB s at_ i.rs = true then runF n (pc + 1) (at_ + 1) 0 else some none)
   else if i.op = 1 then (match runF n i.x at_ e with
    | none => none
    | some (some r) => some (some r)
    | some none => runF n i.y at_ e)
   else if i.op = 2 then runF n i.x at_ e
   else if i.op = 3 then (runF n (pc + 1) at_ e).map (addM (true, i.x, at_))
   else if i.op = 4 then (runF n (pc + 1) at_ e).map (addM (false, i.x, at_))
   else if i.op = 5 then (if at_ = 0 then runF n (pc + 1) at_ e else some none)
   else if i.op = 6 then (if at_ = s.length then runF n (pc + 1) at_ e else some none)
   else if i.op = 7 then runF n (pc + 1) at_ (e + 1)
   else if i.op = 8 then (if e = 0 then runF n (pc + 1) at_ e else some none)
   else some (some (at_, []))
theorem runF_mono : ∀ (n : Nat) {pc at_ e : Nat} {r : Res}, runF C s L n pc at_ e = some r → runF C s L (n + 1) pc at_ e = some r
 | 0, _, _, _, _, h => by cases h
 | n + 1, pc, at_, e, r, h => by
  rw [runF] at h ⊢
  by_cases hL : L < e
  ·rw [if_pos hL] at h; cases h
  rw [if_neg hL] at h ⊢
  cases hc : C[pc]? with
  | none => rw [hc] at h; cases h
  | some i =>
   rw [hc] at h
   simp only at h ⊢
   have go : ∀ {p a q : Nat} {r : Res}, runF C s L n p a q = some r → runF C s L (n + 1) p a q = some r := fun h => runF_mono n h
   have gom : ∀ {p a q : Nat} {f : Res → Res} {r : Res}, (runF C s L n p a q).map f = some r → (runF C s L (n + 1) p a q).map f = some r := by
    intro p a q f r h
    rw [Option.map_eq_some_iff] at h
    obtain ⟨x, h1, h2⟩ := h
    rw [go h1, Option.map_some, h2]
   by_cases o0 : i.op = 0
   ·rw [if_pos o0] at h ⊢
    by_cases hb : hitB s at_ i.rs = true
    ·rw [if_pos hb] at h ⊢; exact go h
    ·rw [if_neg hb] at h ⊢; exact h
   rw [if_neg o0] at h ⊢
   by_cases o1 : i.op = 1
   ·rw [if_pos o1] at h ⊢
    cases hx : runF C s L n i.x at_ e with
    | none => rw [hx] at h; cases h
    | some q =>
     rw [hx] at h
     rw [go hx]
     cases q with
     | some r => exact h
     | none => exact go h
   rw [if_neg o1] at h ⊢
   by_cases o2 : i.op = 2
   ·rw [if_pos o2] at h ⊢
    exact go h
   rw [if_neg o2] at h ⊢
   by_cases o3 : i.op = 3
   ·rw [if_pos o3] at h ⊢
    exact gom h
   rw [if_neg o3] at h ⊢
   by_cases o4 : i.op = 4
   ·rw [if_pos o4] at h ⊢
    exact gom h
   rw [if_neg o4] at h ⊢
   by_cases o5 : i.op = 5
   ·rw [if_pos o5] at h ⊢
    by_cases hb : at_ = 0
    ·rw [if_pos hb] at h ⊢; exact go h
    ·rw [if_neg hb] at h ⊢; exact h
   rw [if_neg o5] at h ⊢
   by_cases o6 : i.op = 6
   ·rw [if_pos o6] at h ⊢
    by_cases hb : at_ = s.length
    ·rw [if_pos hb] at h ⊢; exact go h
    ·rw [if_neg hb] at h ⊢; exact h
   rw [if_neg o6] at h ⊢
   by_cases o7 : i.op = 7
   ·rw [if_pos o7] at h ⊢
    exact go h
   rw [if_neg o7] at h ⊢
   by_cases o8 : i.op = 8
   ·rw [if_pos o8] at h ⊢
    by_cases hb : e = 0
    ·rw [if_pos hb] at h ⊢; exact go h
    ·rw [if_neg hb] at h ⊢; exact h
   rw [if_neg o8] at h ⊢
   exact h
theorem runF_le {n m : Nat} (hnm : n ≤ m) {pc at_ e : Nat} {r : Res} (h : runF C s L n pc at_ e = some r) : runF C s L m pc at_ e = some r := by
 induction hnm with
 | refl => exact h
 | step _ ih => exact runF_mono C s L _ ih
def Way (pc at_ e : Nat) (r : Res) : Prop := ∃ n, runF C s L n pc at_ e = some r
theorem Way.le {pc at_ e : Nat} {r : Res} (h : Way C s L pc at_ e r) : e ≤ L := by
 obtain ⟨n, h⟩ := h
 cases n with
 | zero => cases h
 | succ n =>
  rw [runF] at h
  by_cases hL : L < e
  ·rw [if_pos hL] at h; cases h
  ·omega
theorem Way.det {pc at_ e : Nat} {r r' : Res} (h : Way C s L pc at_ e r) (h' : Way C s L pc at_ e r') : r = r' := by
 obtain ⟨n, h⟩ := h
 obtain ⟨m, h'⟩ := h'
 have h1 := runF_le C s L (Nat.le_max_left n m) h
 have h2 := runF_le C s L (Nat.le_max_right n m) h'
 rw [h1] at h2
 exact Option.some.inj h2
end
end Go.Proofs.YtmpbjaodgajnfaaGreatDoor.Mt
namespace Go.Proofs.YtmpbjaodgajnfaaGreatDoor
open Go.RowKit
inductive NT where
 | node (op : Int) (rs : List (UInt8 × UInt8)) (name : List UInt8) (kids : List NT) (mn mx : Int)
def RgAt (w : World) (rs : List (UInt8 × UInt8)) (v : Value) : Prop := ∃ a c, v = .slice a rs.length c ∧ rs.length ≤ 9223372036854775807 ∧
  (∀ i (h : i < rs.length), ∃ blk off, a = some ⟨blk, off, none⟩ ∧ blk < w.heap.size ∧ w.cell? ⟨blk, off + i * 2, none⟩ = some (.int .u8 (rs[i].1.toNat : Int)) ∧ w.cell? ⟨blk, off + i * 2 + 1, none⟩ = some (.int .u8 (rs[i].2.toNat : Int)))
theorem RgAt.later {w w' : World} (hb : Below w.heap.size w w') {rs : List (UInt8 × UInt8)} {v : Value} (h : RgAt w rs v) : RgAt w' rs v := by
 obtain ⟨a, c, e, hm, hk⟩ := h
 refine ⟨a, c, e, hm, fun i hi => ?_⟩
 obtain ⟨blk, off, e1, hl, c0, c1⟩ := hk i hi
 exact ⟨blk, off, e1, Nat.lt_of_lt_of_le hl hb.size, (hb.cell (p := ⟨blk, off + i * 2, none⟩) hl).trans c0, (hb.cell (p := ⟨blk, off + i * 2 + 1, none⟩) hl).trans c1⟩
def NAt (w : World) : NT → Value → Prop
 | .node op rs nm kids mn mx, v => ∃ ra rc a c, v = .agg #[.int .i64 op, .slice ra rs.length rc, .string ⟨nm.toArray⟩, .slice a kids.length c, .int .i64 mn, .int .i64 mx] ∧ (RgAt w rs (.slice ra rs.length rc) ∧ kids.length ≤ 9223372036854775807 ∧ nm.length ≤ 9223372036854775807) ∧
  (0 < kids.length → ∃ blk off, a = some ⟨blk, off, none⟩ ∧ blk < w.heap.size ∧ ∀ i (h : i < kids.length), ∃ u0 u1 u2 u3 u4 u5,
   w.cell? ⟨blk, off + i * 6, none⟩ = some u0 ∧ w.cell? ⟨blk, off + i * 6 + 1, none⟩ = some u1 ∧ w.cell? ⟨blk, off + i * 6 + 2, none⟩ = some u2 ∧ w.cell? ⟨blk, off + i * 6 + 3, none⟩ = some u3 ∧ w.cell? ⟨blk, off + i * 6 + 4, none⟩ = some u4 ∧ w.cell? ⟨blk, off + i * 6 + 5, none⟩ = some u5 ∧
   NAt w kids[i] (.agg #[u0, u1, u2, u3, u4, u5]))
termination_by t => SizeOf.sizeOf t
decreasing_by
 have := List.sizeOf_lt_of_mem (List.getElem_mem h)
 simp
 omega
theorem NAt.later {w w' : World} (hb : Below w.heap.size w w') : ∀ (t : NT) (v : Value), NAt w t v → NAt w' t v
 | .node op rs nm kids mn mx, v, h => by
  rw [NAt] at h ⊢
  obtain ⟨ra, rc, a, c, e, hm, hk⟩ := h
  refine ⟨ra, rc, a, c, e, ⟨hm.1.later hb, hm.2⟩, fun h0 => ?_⟩
  obtain ⟨blk, off, e1, hl, hc⟩ := hk h0
  refine ⟨blk, off, e1, Nat.lt_of_lt_of_le hl hb.size, fun i hi => ?_⟩
  obtain ⟨u0, u1, u2, u3, u4, u5, c0, c1, c2, c3, c4, c5, ht⟩ := hc i hi
  exact ⟨u0, u1, u2, u3, u4, u5, (hb.cell (p := ⟨blk, off + i * 6, none⟩) hl).trans c0, (hb.cell (p := ⟨blk, off + i * 6 + 1, none⟩) hl).trans c1, (hb.cell (p := ⟨blk, off + i * 6 + 2, none⟩) hl).trans c2, (hb.cell (p := ⟨blk, off + i * 6 + 3, none⟩) hl).trans c3, (hb.cell (p := ⟨blk, off + i * 6 + 4, none⟩) hl).trans c4, (hb.cell (p := ⟨blk, off + i * 6 + 5, none⟩) hl).trans c5, NAt.later hb kids[i] _ ht⟩
termination_by t => SizeOf.sizeOf t
decreasing_by
 have := List.sizeOf_lt_of_mem (List.getElem_mem hi)
 simp
 omega
theorem NAt.open {w : World} {t : NT} {v : Value} (h : NAt w t v) : ∃ op rs nm kids mn mx ra rc a c, t = .node op rs nm kids mn mx ∧ v = .agg #[.int .i64 op, .slice ra rs.length rc, .string ⟨nm.toArray⟩, .slice a kids.length c, .int .i64 mn, .int .i64 mx] ∧ RgAt w rs (.slice ra rs.length rc) ∧ (kids.length ≤ 9223372036854775807 ∧ nm.length ≤ 9223372036854775807) ∧
  (∀ i (h : i < kids.length), ∃ blk off op' ra' rn' rc' nm' a' n' c' mn' mx', a = some ⟨blk, off, none⟩ ∧ blk < w.heap.size ∧ w.cell? ⟨blk, off + i * 6, none⟩ = some (.int .i64 op') ∧ w.cell? ⟨blk, off + i * 6 + 1, none⟩ = some (.slice ra' rn' rc') ∧
   w.cell? ⟨blk, off + i * 6 + 2, none⟩ = some (.string ⟨(nm' : List UInt8).toArray⟩) ∧ w.cell? ⟨blk, off + i * 6 + 3, none⟩ = some (.slice a' n' c') ∧ w.cell? ⟨blk, off + i * 6 + 4, none⟩ = some (.int .i64 mn') ∧ w.cell? ⟨blk, off + i * 6 + 5, none⟩ = some (.int .i64 mx') ∧
   NAt w kids[i] (.agg #[.int .i64 op', .slice ra' rn' rc', .string ⟨nm'.toArray⟩, .slice a' n' c', .int .i64 mn', .int .i64 mx'])) := by
 obtain ⟨op, rs, nm, kids, mn, mx⟩ := t
 rw [NAt] at h
 obtain ⟨ra, rc, a, c, e, hm, hk⟩ := h
 refine ⟨op, rs, nm, kids, mn, mx, ra, rc, a, c, rfl, e, hm.1, hm.2, fun i hi => ?_⟩
 obtain ⟨blk, off, e1, hl, hc⟩ := hk (by omega)
 obtain ⟨u0, u1, u2, u3, u4, u5, c0, c1, c2, c3, c4, c5, ht⟩ := hc i hi
 have ht2 := ht
 generalize kids[i] = t' at ht ht2
 obtain ⟨op', rs', nm', kids', mn', mx'⟩ := t'
 rw [NAt] at ht
 obtain ⟨ra', rc', a', c', e2, _, _⟩ := ht
 injection e2 with e2
 simp only [Array.mk.injEq, List.cons.injEq, and_true] at e2
 obtain ⟨rfl, rfl, rfl, rfl, rfl, rfl⟩ := e2
 exact ⟨blk, off, op', ra', _, rc', nm', a', _, c', mn', mx', e1, hl, c0, c1, c2, c3, c4, c5, ht2⟩
theorem kid_lt {op : Int} {rs : List (UInt8 × UInt8)} {nm : List UInt8} {kids : List NT} {mn mx : Int} (i : Nat) (h : i < kids.length) : SizeOf.sizeOf kids[i] < SizeOf.sizeOf (NT.node op rs nm kids mn mx) := by
 have := List.sizeOf_lt_of_mem (List.getElem_mem h)
 simp
 omega
end Go.Proofs.YtmpbjaodgajnfaaGreatDoor
namespace Go.Proofs.YtmpbjaodgajnfaaGreatDoor.Mt
abbrev Nm := List UInt8
abbrev Cmp := List Ins × List Nm
def capI (ns : List Nm) (nm : Nm) : Nat := (ns.findIdx? (· == nm)).getD ns.length
def capL (ns : List Nm) (nm : Nm) : List Nm := if ns.contains nm then ns else ns ++ [nm]
def times (f : Nat → List Nm → Cmp) : Nat → Nat → List Nm → Cmp
 | 0, _, ns => ([], ns)
 | n + 1, b, ns => ((f b ns).1 ++ (times f n (b + (f b ns).1.length) (f b ns).2).1, (times f n (b + (f b ns).1.length) (f b ns).2).2)
def opts (f : Nat → List Nm → Cmp) (E : Nat) : Nat → Nat → List Nm → Cmp
 | 0, _, ns => ([], ns)
 | n + 1, b, ns => (⟨1, b + 1, E, []⟩ :: (f (b + 1) ns).1 ++ (opts f E n (b + 1 + (f (b + 1) ns).1.length) (f (b + 1) ns).2).1, (opts f E n (b + 1 + (f (b + 1) ns).1.length) (f (b + 1) ns).2).2)
def star (f : Nat → List Nm → Cmp) (b : Nat) (ns : List Nm) : Cmp :=
 (⟨1, b + 1, b + 4 + (f (b + 2) ns).1.length, []⟩ :: ⟨7, 0, 0, []⟩ :: (f (b + 2) ns).1 ++ [⟨8, 0, 0, []⟩, ⟨2, b, 0, []⟩], (f (b + 2) ns).2)
def rept (f : Nat → List Nm → Cmp) (mn mx : Int) (b : Nat) (ns : List Nm) : Cmp :=
 if mx = -1 then ((times f mn.toNat b ns).1 ++ (star f (b + (times f mn.toNat b ns).1.length) (times f mn.toNat b ns).2).1, (star f (b + (times f mn.toNat b ns).1.length) (times f mn.toNat b ns).2).2)
 else ((times f mn.toNat b ns).1 ++ (opts f (b + (times f mn.toNat b ns).1.length + (opts f 0 (mx - mn).toNat (b + (times f mn.toNat b ns).1.length) (times f mn.toNat b ns).2).1.length) (mx - mn).toNat (b + (times f mn.toNat b ns).1.length) (times f mn.toNat b ns).2).1,
  (opts f 0 (mx - mn).toNat (b + (times f mn.toNat b ns).1.length) (times f mn.toNat b ns).2).2)
mutual
def capsN : NT → List Nm → List Nm
 | .node op _ nm kids _ _, ns => capsL kids (if op = 5 then capL ns nm else ns)
def capsL : List NT → List Nm → List Nm
 | [], ns => ns
 | k :: ks, ns => capsL ks (capsN k ns)
end
mutual
def compN : NT → Nat → List Nm → Cmp
 | .node op rs nm kids mn mx, b, ns =>
  if op = 1 then ([⟨0, 0, 0, rs⟩], ns)
  else if op = 6 then ([⟨5, 0, 0, []⟩], ns)
  else if op = 7 then ([⟨6, 0, 0, []⟩], ns)
  else if op = 2 then compL kids b ns
  else if op = 3 then compA (b + (compA 0 kids b ns).1.length) kids b ns
  else if op = 5 then (⟨3, capI ns nm, 0, []⟩ :: (compH kids (b + 1) (capL ns nm)).1 ++ [⟨4, capI ns nm, 0, []⟩], (compH kids (b + 1) (capL ns nm)).2)
  else if op = 4 then (if mx = 0 then ([], capsL (kids.take 1) ns) else rept (compH kids) mn mx b ns)
  else ([], ns)
def compH : List NT → Nat → List Nm → Cmp
 | [], _, ns => ([], ns)
 | k :: _, b, ns => compN k b ns
def compL : List NT → Nat → List Nm → Cmp
 | [], _, ns => ([], ns)
 | k :: ks, b, ns => ((compN k b ns).1 ++ (compL ks (b + (compN k b ns).1.length) (compN k b ns).2).1, (compL ks (b + (compN k b ns).1.length) (compN k b ns).2).2)
def compA (E : Nat) : List NT → Nat → List Nm → Cmp
 | [], _, ns => ([], ns)
 | [k], b, ns => compN k b ns
 | k :: ks, b, ns => (⟨1, b + 1, b + 1 + (compN k (b + 1) ns).1.length + 1, []⟩ :: (compN k (b + 1) ns).1 ++ ⟨2, E, 0, []⟩ :: (compA E ks (b + 1 + (compN k (b + 1) ns).1.length + 1) (compN k (b + 1) ns).2).1,
   (compA E ks (b + 1 + (compN k (b + 1) ns).1.length + 1) (compN k (b + 1) ns).2).2)
end
end Go.Proofs.YtmpbjaodgajnfaaGreatDoor.Mt
namespace Go.Proofs.YtmpbjaodgajnfaaGreatDoor.Mt
section
variable {C : List Ins} {s : List UInt8} {L pc at_ e : Nat} {i : Ins} {r : Res}
theorem Way.hit0 (he : e ≤ L) (hC : C[pc]? = some i) (ho : i.op = 0) (hb : hitB s at_ i.rs = true) (h : Way C s L (pc + 1) (at_ + 1) 0 r) : Way C s L pc at_ e r := by
 have hle := Way.le C s L h
 obtain ⟨n, h⟩ := h
 exact ⟨n + 1, by rw [runF, if_neg (by omega), hC]; simp only [ho, hb, if_true]; exact h⟩
theorem Way.miss0 (he : e ≤ L) (hC : C[pc]? = some i) (ho : i.op = 0) (hb : hitB s at_ i.rs = false) : Way C s L pc at_ e none :=
 ⟨1, by rw [runF, if_neg (by omega), hC]; simp [ho, hb]⟩
theorem Way.yes {q : Nat × List Mk} (hC : C[pc]? = some i) (ho : i.op = 1) (h : Way C s L i.x at_ e (some q)) : Way C s L pc at_ e (some q) := by
 have hle := Way.le C s L h
 obtain ⟨n, h⟩ := h
 exact ⟨n + 1, by rw [runF, if_neg (by omega), hC]; simp [ho, h]⟩
theorem Way.no (hC : C[pc]? = some i) (ho : i.op = 1) (h : Way C s L i.x at_ e none) (h2 : Way C s L i.y at_ e r) : Way C s L pc at_ e r := by
 have hle := Way.le C s L h
 obtain ⟨n, h⟩ := h
 obtain ⟨m, h2⟩ := h2
 have h3 := runF_le C s L (Nat.le_max_left n m) h
 have h4 := runF_le C s L (Nat.le_max_right n m) h2
 exact ⟨max n m + 1, by rw [runF, if_neg (by omega), hC]; simp [ho, h3, h4]⟩
theorem Way.jump (hC : C[pc]? = some i) (ho : i.op = 2) (h : Way C s L i.x at_ e r) : Way C s L pc at_ e r := by
 have hle := Way.le C s L h
 obtain ⟨n, h⟩ := h
 exact ⟨n + 1, by rw [runF, if_neg (by omega), hC]; simp [ho, h]⟩
theorem Way.opn (hC : C[pc]? = some i) (ho : i.op = 3) (h : Way C s L (pc + 1) at_ e r) : Way C s L pc at_ e (addM (true, i.x, at_) r) := by
 have hle := Way.le C s L h
 obtain ⟨n, h⟩ := h
 exact ⟨n + 1, by rw [runF, if_neg (by omega), hC]; simp [ho, h]⟩
theorem Way.cls (hC : C[pc]? = some i) (ho : i.op = 4) (h : Way C s L (pc + 1) at_ e r) : Way C s L pc at_ e (addM (false, i.x, at_) r) := by
 have hle := Way.le C s L h
 obtain ⟨n, h⟩ := h
 exact ⟨n + 1, by rw [runF, if_neg (by omega), hC]; simp [ho, h]⟩
theorem Way.hit5 (hC : C[pc]? = some i) (ho : i.op = 5) (hb : at_ = 0) (h : Way C s L (pc + 1) at_ e r) : Way C s L pc at_ e r := by
 have hle := Way.le C s L h
 obtain ⟨n, h⟩ := h
 exact ⟨n + 1, by rw [runF, if_neg (by omega), hC]; simp only [ho]; rw [if_neg (by decide), if_neg (by decide), if_neg (by decide), if_neg (by decide), if_neg (by decide), if_pos trivial, if_pos hb]; exact h⟩
theorem Way.miss5 (he : e ≤ L) (hC : C[pc]? = some i) (ho : i.op = 5) (hb : at_ ≠ 0) : Way C s L pc at_ e none :=
 ⟨1, by rw [runF, if_neg (by omega), hC]; simp [ho, hb]⟩
theorem Way.hit6 (hC : C[pc]? = some i) (ho : i.op = 6) (hb : at_ = s.length) (h : Way C s L (pc + 1) at_ e r) : Way C s L pc at_ e r := by
 have hle := Way.le C s L h
 obtain ⟨n, h⟩ := h
 exact ⟨n + 1, by rw [runF, if_neg (by omega), hC]; simp only [ho]; rw [if_neg (by decide), if_neg (by decide), if_neg (by decide), if_neg (by decide), if_neg (by decide), if_neg (by decide), if_pos trivial, if_pos hb]; exact h⟩
theorem Way.miss6 (he : e ≤ L) (hC : C[pc]? = some i) (ho : i.op = 6) (hb : at_ ≠ s.length) : Way C s L pc at_ e none :=
 ⟨1, by rw [runF, if_neg (by omega), hC]; simp [ho, hb]⟩
theorem Way.enter (hC : C[pc]? = some i) (ho : i.op = 7) (h : Way C s L (pc + 1) at_ (e + 1) r) : Way C s L pc at_ e r := by
 have hle := Way.le C s L h
 obtain ⟨n, h⟩ := h
 exact ⟨n + 1, by rw [runF, if_neg (by omega), hC]; simp [ho, h]⟩
theorem Way.hit8 (hC : C[pc]? = some i) (ho : i.op = 8) (hb : e = 0) (h : Way C s L (pc + 1) at_ e r) : Way C s L pc at_ e r := by
 have hle := Way.le C s L h
 obtain ⟨n, h⟩ := h
 exact ⟨n + 1, by rw [runF, if_neg (by omega), hC]; simp only [ho]; rw [if_neg (by decide), if_neg (by decide), if_neg (by decide), if_neg (by decide), if_neg (by decide), if_neg (by decide), if_neg (by decide), if_neg (by decide), if_pos trivial, if_pos hb]; exact h⟩
theorem Way.miss8 (he : e ≤ L) (hC : C[pc]? = some i) (ho : i.op = 8) (hb : e ≠ 0) : Way C s L pc at_ e none :=
 ⟨1, by rw [runF, if_neg (by omega), hC]; simp [ho, hb]⟩
theorem Way.fin (he : e ≤ L) (hC : C[pc]? = some i) (ho : i.op = 9) : Way C s L pc at_ e (some (at_, [])) :=
 ⟨1, by rw [runF, if_neg (by omega), hC]; simp [ho]⟩
end
def Lies (C : List Ins) (b : Nat) (c : List Ins) : Prop := ∀ k (h : k < c.length), C[b + k]? = some c[k]
theorem Lies.app {C : List Ins} {b : Nat} {c d : List Ins} (h : Lies C b (c ++ d)) : Lies C b c ∧ Lies C (b + c.length) d := by
 refine ⟨fun k hk => ?_, fun k hk => ?_⟩
 ·rw [h k (by rw [List.length_append]; omega), List.getElem_append_left hk]
 ·rw [Nat.add_assoc, h (c.length + k) (by rw [List.length_append]; omega), List.getElem_append_right (by omega)]
  simp
theorem Lies.hd {C : List Ins} {b : Nat} {i : Ins} {c : List Ins} (h : Lies C b (i :: c)) : C[b]? = some i ∧ Lies C (b + 1) c := by
 refine ⟨by have := h 0 (by simp); simpa using this, fun k hk => ?_⟩
 have := h (k + 1) (by simpa using hk)
 rw [show b + 1 + k = b + (k + 1) by omega, this]
 simp
def Nx (s : List UInt8) (at_ e at' e' : Nat) : Prop := (at' = at_ ∧ e' = e) ∨ (at_ < at' ∧ at' ≤ s.length ∧ e' = 0)
theorem Nx.le {s : List UInt8} {at_ e at' e' : Nat} (h : Nx s at_ e at' e') (ha : at_ ≤ s.length) : at' ≤ s.length := by
 rcases h with ⟨rfl, _⟩ | ⟨_, h, _⟩ <;> omega
theorem Nx.trans {s : List UInt8} {a0 e0 a1 e1 a2 e2 : Nat} (h : Nx s a0 e0 a1 e1) (k : Nx s a1 e1 a2 e2) : Nx s a0 e0 a2 e2 := by
 unfold Nx at *
 omega
theorem opts_len (f : Nat → List Nm → Cmp) (E : Nat) : ∀ n b ns, (opts f E n b ns).1.length = (opts f 0 n b ns).1.length
 | 0, _, _ => rfl
 | n + 1, b, ns => by
  rw [opts, opts]
  simp only [List.cons_append, List.length_cons, List.length_append]
  rw [opts_len f E n]
theorem compA_two (E : Nat) (k k2 : NT) (ks : List NT) (b : Nat) (ns : List Nm) : compA E (k :: k2 :: ks) b ns = (⟨1, b + 1, b + 1 + (compN k (b + 1) ns).1.length + 1, []⟩ :: (compN k (b + 1) ns).1 ++ ⟨2, E, 0, []⟩ :: (compA E (k2 :: ks) (b + 1 + (compN k (b + 1) ns).1.length + 1) (compN k (b + 1) ns).2).1,
   (compA E (k2 :: ks) (b + 1 + (compN k (b + 1) ns).1.length + 1) (compN k (b + 1) ns).2).2) := by
 rw [compA]
 intro h
 cases h
theorem compA_len (E E' : Nat) : ∀ (ks : List NT) (b : Nat) (ns : List Nm), (compA E ks b ns).1.length = (compA E' ks b ns).1.length
 | [], _, _ => by rw [compA, compA]
 | [k], _, _ => by rw [compA, compA]
 | k :: k2 :: ks, b, ns => by
  rw [compA_two, compA_two]
  simp only [List.cons_append, List.length_cons, List.length_append]
  rw [compA_len E E' (k2 :: ks)]
end Go.Proofs.YtmpbjaodgajnfaaGreatDoor.Mt
namespace Go.Proofs.YtmpbjaodgajnfaaGreatDoor.Mt
theorem bit_set (v b k : Nat) : (v ||| 2 ^ b).testBit k = (v.testBit k || decide (b = k)) := by
 rw [Nat.testBit_or, Nat.testBit_two_pow]
theorem bit_and (v b : Nat) : (v &&& 2 ^ b = 0) ↔ v.testBit b = false := by
 constructor
 ·intro h
  have := congrArg (Nat.testBit · b) h
  simp only [Nat.testBit_and, Nat.testBit_two_pow, decide_true, Bool.and_true, Nat.zero_testBit] at this
  exact this
 ·intro h
  apply Nat.eq_of_testBit_eq
  intro j
  rw [Nat.testBit_and, Nat.testBit_two_pow, Nat.zero_testBit]
  by_cases e : b = j
  ·subst e; simp [h]
  ·simp [e]
def stI (n pc at_ : Nat) : Nat := pc * (n + 1) + at_
theorem stI_lt {n pc at_ pc' at' : Nat} (h : at_ ≤ n) (hp : pc < pc') : stI n pc at_ < stI n pc' at' := by
 unfold stI
 have := Nat.mul_le_mul_right (n + 1) (Nat.succ_le_of_lt hp)
 rw [Nat.succ_mul] at this
 omega
theorem stI_inj {n pc at_ pc' at' : Nat} (h : at_ ≤ n) (h' : at' ≤ n) (e : stI n pc at_ = stI n pc' at') : pc = pc' ∧ at_ = at' := by
 rcases Nat.lt_trichotomy pc pc' with c | c | c
 ·have := stI_lt (at' := at') h c
  omega
 ·subst c
  unfold stI at e
  exact ⟨rfl, by omega⟩
 ·have := stI_lt (at' := at_) h' c
  omega
def Sound (C : List Ins) (s : List UInt8) (L e : Nat) (ws : List Nat) : Prop := ∀ pc at_ v, at_ ≤ s.length → ws[stI s.length pc at_ / 64]? = some v → v.testBit (stI s.length pc at_ % 64) = true → Way C s L pc at_ e none
theorem Sound.zero (C : List Ins) (s : List UInt8) (L e n : Nat) : Sound C s L e (List.replicate n 0) := by
 intro pc at_ v _ h hb
 rw [List.getElem?_replicate] at h
 split at h
 ·injection h with h
  subst h
  simp at hb
 ·cases h
theorem Sound.set {C : List Ins} {s : List UInt8} {L e : Nat} {ws : List Nat} (h : Sound C s L e ws) {pc at_ v : Nat} (ha : at_ ≤ s.length) (hv : ws[stI s.length pc at_ / 64]? = some v) (hw : Way C s L pc at_ e none) :
  Sound C s L e (ws.set (stI s.length pc at_ / 64) (v ||| 2 ^ (stI s.length pc at_ % 64))) := by
 intro pc' at' v' ha' hv' hb
 rw [List.getElem?_set] at hv'
 split at hv'
 ·next he =>
  split at hv'
  ·injection hv' with hv'
   subst hv'
   rw [bit_set, Bool.or_eq_true, decide_eq_true_iff] at hb
   rcases hb with hb | hb
   ·exact h pc' at' v ha' (by rw [← he]; exact hv) hb
   ·have e : stI s.length pc at_ = stI s.length pc' at' := by
     have h1 := Nat.div_add_mod (stI s.length pc at_) 64
     have h2 := Nat.div_add_mod (stI s.length pc' at') 64
     omega
    obtain ⟨rfl, rfl⟩ := stI_inj ha ha' e
    exact hw
  ·cases hv'
 ·exact h pc' at' v' ha' hv' hb
def fstM (ms : List Mk) (b : Bool) (i : Nat) : Option Nat := (ms.find? fun m => decide (m.1 = b ∧ m.2.1 = i)).map (·.2.2)
end Go.Proofs.YtmpbjaodgajnfaaGreatDoor.Mt
namespace Go.Proofs.YtmpbjaodgajnfaaGreatDoor.Mt
abbrev Out := Nat × Nat × List Mk
def seqD (l : List Out) (g : Nat → Nat → List Out) : List Out := l.flatMap fun o => (g o.1 o.2.1).map fun q => (q.1, q.2.1, q.2.2 ++ o.2.2)
def fstD : List Out → (Nat → Nat → Res) → Res
 | [], _ => none
 | o :: l, K => match K o.1 o.2.1 with
  | some x => some (x.1, x.2 ++ o.2.2)
  | none => fstD l K
def orR : Res → Res → Res
 | some x, _ => some x
 | none, r => r
theorem fstD_app (l m : List Out) (K : Nat → Nat → Res) : fstD (l ++ m) K = orR (fstD l K) (fstD m K) := by
 induction l with
 | nil => rfl
 | cons o l ih =>
  rw [List.cons_append, fstD, fstD]
  cases K o.1 o.2.1 with
  | some x => rfl
  | none => exact ih
theorem fstD_one (a e : Nat) (K : Nat → Nat → Res) : fstD [(a, e, [])] K = K a e := by
 rw [fstD, fstD]
 cases h : K a e with
 | none => rfl
 | some x => simp
theorem fstD_map (l : List Out) (ms : List Mk) (K : Nat → Nat → Res) : fstD (l.map fun q => (q.1, q.2.1, q.2.2 ++ ms)) K = (fstD l K).map fun x => (x.1, x.2 ++ ms) := by
 induction l with
 | nil => rfl
 | cons o l ih =>
  rw [List.map_cons, fstD, fstD]
  cases K o.1 o.2.1 with
  | some x => simp
  | none => exact ih
theorem fstD_seq (l : List Out) (g : Nat → Nat → List Out) (K : Nat → Nat → Res) : fstD (seqD l g) K = fstD l (fun a e => fstD (g a e) K) := by
 induction l with
 | nil => rfl
 | cons o l ih =>
  have hs : seqD (o :: l) g = ((g o.1 o.2.1).map fun q => (q.1, q.2.1, q.2.2 ++ o.2.2)) ++ seqD l g := by unfold seqD; rw [List.flatMap_cons]
  rw [hs, fstD_app, fstD_map, ih, fstD]
  cases fstD (g o.1 o.2.1) K with
  | some x => rfl
  | none => rfl
theorem fstD_filter (l : List Out) (p : Nat → Bool) (K : Nat → Nat → Res) : fstD (l.filter fun o => p o.2.1) K = fstD l (fun a e => if p e = true then K a e else none) := by
 induction l with
 | nil => rfl
 | cons o l ih =>
  rw [List.filter_cons]
  cases hp : p o.2.1 with
  | true => rw [if_pos rfl, fstD, fstD, if_pos hp, ih]
  | false =>
   rw [if_neg (by decide), ih]
   conv => rhs; rw [fstD]
   rw [if_neg (by rw [hp]; decide)]
section
variable (f : List Nm → Nat → Nat → List Out) (fn : List Nm → List Nm)
def timesD : Nat → List Nm → Nat → Nat → List Out
 | 0, _, a, e => [(a, e, [])]
 | n + 1, ns, a, e => seqD (f ns a e) (timesD n (fn ns))
def optsD : Nat → List Nm → Nat → Nat → List Out
 | 0, _, a, e => [(a, e, [])]
 | n + 1, ns, a, e => seqD (f ns a e) (optsD n (fn ns)) ++ [(a, e, [])]
def starD (ns : List Nm) : Nat → Nat → Nat → List Out
 | 0, a, e => [(a, e, [])]
 | m + 1, a, e => seqD ((f ns a (e + 1)).filter fun o => decide (o.2.1 = 0)) (starD ns m) ++ [(a, e, [])]
def timesN : Nat → List Nm → List Nm
 | 0, ns => ns
 | n + 1, ns => timesN n (fn ns)
def reptD (s : List UInt8) (mn mx : Int) (ns : List Nm) (a e : Nat) : List Out :=
 if mx = -1 then seqD (timesD f fn mn.toNat ns a e) fun a e => starD f (timesN fn mn.toNat ns) (s.length - a) a e
 else seqD (timesD f fn mn.toNat ns a e) (optsD f fn (mx - mn).toNat (timesN fn mn.toNat ns))
end
mutual
def nsN : NT → List Nm → List Nm
 | .node op _ nm kids mn mx, ns =>
  if op = 1 then ns else if op = 6 then ns else if op = 7 then ns
  else if op = 2 then nsL kids ns
  else if op = 3 then nsL kids ns
  else if op = 5 then nsH kids (capL ns nm)
  else if op = 4 then (if mx = 0 then capsL (kids.take 1) ns else if mx = -1 then nsH kids (timesN (nsH kids) mn.toNat ns) else timesN (nsH kids) (mx - mn).toNat (timesN (nsH kids) mn.toNat ns))
  else ns
def nsH : List NT → List Nm → List Nm
 | [], ns => ns
 | k :: _, ns => nsN k ns
def nsL : List NT → List Nm → List Nm
 | [], ns => ns
 | k :: ks, ns => nsL ks (nsN k ns)
end
mutual
def denN (s : List UInt8) : NT → List Nm → Nat → Nat → List Out
 | .node op rs nm kids mn mx, ns, a, e =>
  if op = 1 then (if hitB s a rs = true then [(a + 1, 0, [])] else [])
  else if op = 6 then (if a = 0 then [(a, e, [])] else [])
  else if op = 7 then (if a = s.length then [(a, e, [])] else [])
  else if op = 2 then denL s kids ns a e
  else if op = 3 then denA s kids ns a e
  else if op = 5 then (denH s kids (capL ns nm) a e).map fun q => (q.1, q.2.1, (false, capI ns nm, q.1) :: q.2.2 ++ [(true, capI ns nm, a)])
  else if op = 4 then (if mx = 0 then [(a, e, [])] else reptD (denH s kids) (nsH kids) s mn mx ns a e)
  else [(a, e, [])]
def denH (s : List UInt8) : List NT → List Nm → Nat → Nat → List Out
 | [], _, a, e => [(a, e, [])]
 | k :: _, ns, a, e => denN s k ns a e
def denL (s : List UInt8) : List NT → List Nm → Nat → Nat → List Out
 | [], _, a, e => [(a, e, [])]
 | k :: ks, ns, a, e => seqD (denN s k ns a e) (denL s ks (nsN k ns))
def denA (s : List UInt8) : List NT → List Nm → Nat → Nat → List Out
 | [], _, a, e => [(a, e, [])]
 | [k], ns, a, e => denN s k ns a e
 | k :: ks, ns, a, e => denN s k ns a e ++ denA s ks (nsN k ns) a e
end
def Sem (C : List Ins) (s : List UInt8) (L n b b' : Nat) (D : Nat → Nat → List Out) : Prop := ∀ a e (K : Nat → Nat → Res), a ≤ s.length → e + n ≤ L → (∀ a' e', Nx s a e a' e' → Way C s L b' a' e' (K a' e')) → Way C s L b a e (fstD (D a e) K)
theorem Sem.refl (C : List Ins) (s : List UInt8) (L n b : Nat) : Sem C s L n b b fun a e => [(a, e, [])] := fun a e K _ _ h => by
 rw [fstD_one]
 exact h a e (.inl ⟨rfl, rfl⟩)
theorem Nx.lt {s : List UInt8} {a e a' e' : Nat} (h : Nx s a e a' e') : e' ≤ e := by
 unfold Nx at h
 omega
theorem Sem.trans {C : List Ins} {s : List UInt8} {L n b0 b1 b2 : Nat} {D E : Nat → Nat → List Out} (h : Sem C s L n b0 b1 D) (k : Sem C s L n b1 b2 E) : Sem C s L n b0 b2 fun a e => seqD (D a e) E := fun a e K ha hl hk => by
 rw [fstD_seq]
 exact h a e _ ha hl fun a' e' hn => k a' e' K (hn.le ha) (by have := hn.lt; omega) fun a2 e2 hn2 => hk a2 e2 (hn.trans hn2)
theorem Sem.mono {C : List Ins} {s : List UInt8} {L n n' b b' : Nat} {D : Nat → Nat → List Out} (h : Sem C s L n b b' D) (hn : n ≤ n') : Sem C s L n' b b' D := fun a e K ha hl hk => h a e K ha (by omega) hk
theorem Way.split {C : List Ins} {s : List UInt8} {L pc a e : Nat} {i : Ins} {r q : Res} (hC : C[pc]? = some i) (ho : i.op = 1) (h : Way C s L i.x a e r) (h2 : Way C s L i.y a e q) : Way C s L pc a e (orR r q) := by
 cases r with
 | some x => exact h.yes hC ho
 | none => exact h.no hC ho h2
def SemF (s : List UInt8) (L n : Nat) (f : Nat → List Nm → Cmp) (D : List Nm → Nat → Nat → List Out) (fn : List Nm → List Nm) : Prop := ∀ C b ns, (f b ns).2 = fn ns ∧ (Lies C b (f b ns).1 → Sem C s L n b (b + (f b ns).1.length) (D ns))
section
variable {s : List UInt8} {L q : Nat} {f : Nat → List Nm → Cmp} {D : List Nm → Nat → Nat → List Out} {fn : List Nm → List Nm} (hf : SemF s L q f D fn)
include hf
theorem times_sem : ∀ n, SemF s L q (times f n) (timesD D fn n) (timesN fn n)
 | 0, C, b, ns => ⟨rfl, fun _ => Sem.refl C s L q b⟩
 | n + 1, C, b, ns => by
  have ih := times_sem n C (b + (f b ns).1.length) (f b ns).2
  rw [times]
  rw [(hf C b ns).1] at ih
  refine ⟨?_, fun h => ?_⟩
  ·simp only
   rw [(hf C b ns).1]
   exact ih.1
  ·simp only at h ⊢
   rw [(hf C b ns).1] at h ⊢
   obtain ⟨h1, h2⟩ := h.app
   have := ((hf C b ns).2 h1).trans (ih.2 h2)
   rw [List.length_append, ← Nat.add_assoc]
   exact this
theorem opts_names (E : Nat) : ∀ n b ns, (opts f E n b ns).2 = timesN fn n ns
 | 0, _, _ => rfl
 | n + 1, b, ns => by
  rw [opts]
  simp only
  rw [opts_names E n, (hf [] (b + 1) ns).1]
  rfl
theorem opts_sem (E : Nat) : ∀ n C b ns, Lies C b (opts f E n b ns).1 → E = b + (opts f E n b ns).1.length → Sem C s L q b E (optsD D fn n ns)
 | 0, C, b, ns, _, hE => by
  rw [opts] at hE
  simp only [List.length_nil, Nat.add_zero] at hE
  rw [hE]
  exact Sem.refl C s L q b
 | n + 1, C, b, ns, h, hE => by
  rw [opts] at h hE
  simp only [List.cons_append] at h
  simp only [List.cons_append, List.length_cons, List.length_append] at hE
  obtain ⟨h0, h1⟩ := h.hd
  obtain ⟨h1, h2⟩ := h1.app
  have t1 := (hf C (b + 1) ns).2 h1
  have t2 := opts_sem E n C _ _ h2 (by omega)
  rw [(hf C (b + 1) ns).1] at t2
  intro a e K ha hl hk
  rw [optsD, fstD_app, fstD_one]
  exact Way.split h0 rfl ((t1.trans t2) a e K ha hl hk) (hk a e (.inl ⟨rfl, rfl⟩))
theorem star_sem (C : List Ins) (b : Nat) (ns : List Nm) : (star f b ns).2 = fn ns ∧ (Lies C b (star f b ns).1 → Sem C s L (q + 1) b (b + (star f b ns).1.length) fun a e => starD D ns (s.length - a) a e) := by
 refine ⟨(hf C (b + 2) ns).1, fun h => ?_⟩
 have hlen : (star f b ns).1.length = (f (b + 2) ns).1.length + 4 := by unfold star; simp
 rw [hlen]
 unfold star at h
 simp only [List.cons_append] at h
 obtain ⟨h0, h1⟩ := h.hd
 obtain ⟨h1, h2⟩ := h1.hd
 obtain ⟨h2, h3⟩ := h2.app
 obtain ⟨h3, h4⟩ := h3.hd
 obtain ⟨h4, _⟩ := h4.hd
 have t1 := (hf C (b + 2) ns).2 h2
 obtain ⟨M, hM⟩ : ∃ M, (f (b + 2) ns).1.length = M := ⟨_, rfl⟩
 rw [hM] at h0 h3 h4 t1 ⊢
 have key : ∀ m a e (K : Nat → Nat → Res), s.length - a ≤ m → a ≤ s.length → e + (q + 1) ≤ L → (∀ a' e', Nx s a e a' e' → Way C s L (b + (M + 4)) a' e' (K a' e')) → Way C s L b a e (fstD (starD D ns m a e) K) := by
  intro m
  induction m with
  | zero =>
   intro a e K hm ha hl hk
   have hy : Way C s L (b + 4 + M) a e (K a e) := by
    have := hk a e (.inl ⟨rfl, rfl⟩)
    rwa [show b + (M + 4) = b + 4 + M by omega] at this
   rw [starD, fstD_one]
   have hx : Way C s L (b + 1 + 1) a (e + 1) (fstD (D ns a (e + 1)) fun _ _ => none) := t1 a (e + 1) _ ha (by omega) fun a' e' hn => by
    rcases hn with ⟨rfl, rfl⟩ | ⟨h5, h6, _⟩
    ·exact Way.miss8 (by omega) h3 rfl (by omega)
    ·omega
   have hnone : ∀ l : List Out, fstD l (fun _ _ => none) = none := by
    intro l
    induction l with
    | nil => rfl
    | cons o l ih => rw [fstD]; exact ih
   rw [hnone] at hx
   exact Way.no h0 rfl (hx.enter h1 rfl) hy
  | succ m ih =>
   intro a e K hm ha hl hk
   have hy : Way C s L (b + 4 + M) a e (K a e) := by
    have := hk a e (.inl ⟨rfl, rfl⟩)
    rwa [show b + (M + 4) = b + 4 + M by omega] at this
   rw [starD, fstD_app, fstD_one, fstD_seq, fstD_filter (D ns a (e + 1)) (fun e => decide (e = 0))]
   refine Way.split h0 rfl (Way.enter h1 rfl (t1 a (e + 1) _ ha (by omega) fun a' e' hn => ?_)) hy
   rcases hn with ⟨rfl, rfl⟩ | ⟨h5, h6, rfl⟩
   ·rw [if_neg (by simp)]
    exact Way.miss8 (by omega) h3 rfl (by omega)
   ·rw [if_pos (by simp)]
    refine Way.hit8 h3 rfl rfl (Way.jump h4 rfl ?_)
    exact ih a' 0 K (by omega) h6 (by omega) fun a2 e2 hn2 => hk a2 e2 (Nx.trans (.inr ⟨h5, h6, rfl⟩) hn2)
 exact fun a e K ha hl hk => key _ a e K (Nat.le_refl _) ha hl hk
end
end Go.Proofs.YtmpbjaodgajnfaaGreatDoor.Mt
namespace Go.Proofs.YtmpbjaodgajnfaaGreatDoor.Mt
theorem rept_sem {s : List UInt8} {L q : Nat} {f : Nat → List Nm → Cmp} {D : List Nm → Nat → Nat → List Out} {fn : List Nm → List Nm} (hf : SemF s L q f D fn) (mn mx : Int) :
  SemF s L (if mx = -1 then q + 1 else q) (rept f mn mx) (reptD D fn s mn mx) (fun ns => if mx = -1 then fn (timesN fn mn.toNat ns) else timesN fn (mx - mn).toNat (timesN fn mn.toNat ns)) := by
 intro C b ns
 have ht := times_sem hf mn.toNat C b ns
 unfold rept
 dsimp only
 by_cases h1 : mx = -1
 ·rw [if_pos h1, if_pos h1, if_pos h1]
  have hs := star_sem hf C (b + (times f mn.toNat b ns).1.length) (times f mn.toNat b ns).2
  rw [ht.1] at hs
  refine ⟨?_, fun h => ?_⟩
  ·simp only
   rw [ht.1]
   exact hs.1
  ·simp only at h ⊢
   rw [ht.1] at h ⊢
   obtain ⟨h2, h3⟩ := h.app
   have := ((ht.2 h2).mono (Nat.le_succ q)).trans (hs.2 h3)
   rw [List.length_append, ← Nat.add_assoc]
   intro a e K ha hl hk
   unfold reptD
   rw [if_pos h1]
   exact this a e K ha hl hk
 ·rw [if_neg h1, if_neg h1, if_neg h1]
  refine ⟨?_, fun h => ?_⟩
  ·simp only
   rw [opts_names hf, ht.1]
  ·simp only at h ⊢
   obtain ⟨h2, h3⟩ := h.app
   have hE := fun E => opts_len f E (mx - mn).toNat (b + (times f mn.toNat b ns).1.length) (times f mn.toNat b ns).2
   have := (ht.2 h2).trans (opts_sem hf _ _ C _ _ h3 (congrArg (_ + ·) (hE _).symm))
   rw [List.length_append, hE, ← Nat.add_assoc]
   intro a e K ha hl hk
   unfold reptD
   rw [if_neg h1]
   rw [ht.1] at this
   rw [ht.1] at hk
   exact this a e K ha hl hk
theorem capH (kids : List NT) (b : Nat) (ns : List Nm) (i : Nat) (C : List Ins) (s : List UInt8) (L n : Nat) (D : Nat → Nat → List Out) (h : Lies C b (⟨3, i, 0, []⟩ :: (compH kids (b + 1) ns).1 ++ [⟨4, i, 0, []⟩])) (hs : Lies C (b + 1) (compH kids (b + 1) ns).1 → Sem C s L n (b + 1) (b + 1 + (compH kids (b + 1) ns).1.length) D) :
  Sem C s L n b (b + (⟨3, i, 0, []⟩ :: (compH kids (b + 1) ns).1 ++ [⟨4, i, 0, []⟩] : List Ins).length) fun a e => (D a e).map fun q => (q.1, q.2.1, (false, i, q.1) :: q.2.2 ++ [(true, i, a)]) := by
 simp only [List.cons_append] at h
 simp only [List.cons_append, List.length_cons, List.length_append, List.length_nil]
 obtain ⟨h7, h8⟩ := h.hd
 obtain ⟨h8, h9⟩ := h8.app
 obtain ⟨h9, _⟩ := h9.hd
 intro a e K ha hl hk
 have t1 := hs h8 a e (fun a' e' => addM (false, i, a') (K a' e')) ha hl fun a' e' hn => by
  have hw := hk a' e' hn
  rw [show b + ((compH kids (b + 1) ns).1.length + (0 + 1) + 1) = b + 1 + (compH kids (b + 1) ns).1.length + 1 by omega] at hw
  exact Way.cls h9 rfl hw
 have key : ∀ l : List Out, addM (true, i, a) (fstD l fun a' e' => addM (false, i, a') (K a' e')) = fstD (l.map fun q => (q.1, q.2.1, (false, i, q.1) :: q.2.2 ++ [(true, i, a)])) K := by
  intro l
  induction l with
  | nil => rfl
  | cons o l ih =>
   rw [fstD, List.map_cons, fstD]
   cases K o.1 o.2.1 with
   | none => exact ih
   | some x => simp [addM]
 have := Way.opn h7 rfl t1
 rw [key] at this
 exact this
mutual
def nst : NT → Nat
 | .node op _ _ kids _ mx => if op = 2 ∨ op = 3 then nstL kids else if op = 5 then nstH kids else if op = 4 then (if mx = 0 then 0 else if mx = -1 then nstH kids + 1 else nstH kids) else 0
def nstH : List NT → Nat
 | [] => 0
 | k :: _ => nst k
def nstL : List NT → Nat
 | [] => 0
 | k :: ks => max (nst k) (nstL ks)
end
mutual
theorem compN_sem (s : List UInt8) (L : Nat) : ∀ t : NT, SemF s L (nst t) (compN t) (denN s t) (nsN t)
 | .node op rs nm kids mn mx => by
  intro C b ns
  rw [compN, nsN]
  by_cases h0 : op = 1
  ·rw [if_pos h0, if_pos h0]
   refine ⟨rfl, fun h => ?_⟩
   obtain ⟨h1, _⟩ := h.hd
   intro a e K ha hl hk
   rw [denN, if_pos h0]
   cases hb : hitB s a rs with
   | false =>
    rw [if_neg (by decide)]
    exact Way.miss0 (by omega) h1 rfl hb
   | true =>
    have hl : a < s.length := by
     rcases Nat.lt_or_ge a s.length with c | c
     ·exact c
     ·unfold hitB at hb
      rw [List.getElem?_eq_none c] at hb
      cases hb
    rw [if_pos rfl, fstD_one]
    exact Way.hit0 (by omega) h1 rfl hb (hk (a + 1) 0 (.inr ⟨by omega, by omega, rfl⟩))
  rw [if_neg h0, if_neg h0]
  by_cases h2 : op = 6
  ·rw [if_pos h2, if_pos h2]
   refine ⟨rfl, fun h => ?_⟩
   obtain ⟨h1, _⟩ := h.hd
   intro a e K ha hl hk
   rw [denN, if_neg h0, if_pos h2]
   by_cases hb : a = 0
   ·rw [if_pos hb, fstD_one]
    exact Way.hit5 h1 rfl hb (hk a e (.inl ⟨rfl, rfl⟩))
   ·rw [if_neg hb]
    exact Way.miss5 (by omega) h1 rfl hb
  rw [if_neg h2, if_neg h2]
  by_cases h3 : op = 7
  ·rw [if_pos h3, if_pos h3]
   refine ⟨rfl, fun h => ?_⟩
   obtain ⟨h1, _⟩ := h.hd
   intro a e K ha hl hk
   rw [denN, if_neg h0, if_neg h2, if_pos h3]
   by_cases hb : a = s.length
   ·rw [if_pos hb, fstD_one]
    exact Way.hit6 h1 rfl hb (hk a e (.inl ⟨rfl, rfl⟩))
   ·rw [if_neg hb]
    exact Way.miss6 (by omega) h1 rfl hb
  rw [if_neg h3, if_neg h3]
  by_cases h4 : op = 2
  ·rw [if_pos h4, if_pos h4]
   refine ⟨(compL_sem s L kids C b ns).1, fun h => ?_⟩
   intro a e K ha hl hk
   rw [nst, if_pos (.inl h4)] at hl
   rw [denN, if_neg h0, if_neg h2, if_neg h3, if_pos h4]
   exact (compL_sem s L kids C b ns).2 h a e K ha hl hk
  rw [if_neg h4, if_neg h4]
  by_cases h5 : op = 3
  ·rw [if_pos h5, if_pos h5]
   refine ⟨(compA_sem s L _ kids C b ns).1, fun h => ?_⟩
   have := (compA_sem s L _ kids C b ns).2 h (congrArg (b + ·) (compA_len 0 _ kids b ns))
   rw [compA_len 0 (b + (compA 0 kids b ns).1.length) kids b ns] at this
   intro a e K ha hl hk
   rw [nst, if_pos (.inr h5)] at hl
   rw [denN, if_neg h0, if_neg h2, if_neg h3, if_neg h4, if_pos h5]
   exact this a e K ha hl hk
  rw [if_neg h5, if_neg h5]
  by_cases h6 : op = 5
  ·rw [if_pos h6, if_pos h6]
   refine ⟨(compH_sem s L kids C (b + 1) (capL ns nm)).1, fun h => ?_⟩
   have := capH kids b (capL ns nm) (capI ns nm) C s L (nstH kids) _ h (compH_sem s L kids C (b + 1) (capL ns nm)).2
   intro a e K ha hl hk
   rw [nst, if_neg (by omega), if_pos h6] at hl
   rw [denN, if_neg h0, if_neg h2, if_neg h3, if_neg h4, if_neg h5, if_pos h6]
   exact this a e K ha hl hk
  rw [if_neg h6, if_neg h6]
  by_cases h7 : op = 4
  ·rw [if_pos h7, if_pos h7]
   by_cases h8 : mx = 0
   ·rw [if_pos h8, if_pos h8]
    refine ⟨rfl, fun h => ?_⟩
    intro a e K ha hl hk
    rw [denN, if_neg h0, if_neg h2, if_neg h3, if_neg h4, if_neg h5, if_neg h6, if_pos h7, if_pos h8]
    exact Sem.refl C s L 0 b a e K ha (by omega) hk
   ·rw [if_neg h8, if_neg h8]
    have hr := rept_sem (compH_sem s L kids) mn mx C b ns
    refine ⟨hr.1, fun h => ?_⟩
    intro a e K ha hl hk
    rw [nst, if_neg (by omega), if_neg h6, if_pos h7, if_neg h8] at hl
    rw [denN, if_neg h0, if_neg h2, if_neg h3, if_neg h4, if_neg h5, if_neg h6, if_pos h7, if_neg h8]
    exact hr.2 h a e K ha hl hk
  ·rw [if_neg h7, if_neg h7]
   refine ⟨rfl, fun h => ?_⟩
   intro a e K ha hl hk
   rw [denN, if_neg h0, if_neg h2, if_neg h3, if_neg h4, if_neg h5, if_neg h6, if_neg h7]
   exact Sem.refl C s L 0 b a e K ha (by omega) hk
theorem compH_sem (s : List UInt8) (L : Nat) : ∀ ks : List NT, SemF s L (nstH ks) (compH ks) (denH s ks) (nsH ks)
 | [] => by
  intro C b ns
  rw [compH, nsH]
  refine ⟨rfl, fun _ => ?_⟩
  intro a e K ha hl hk
  rw [denH]
  exact Sem.refl C s L 0 b a e K ha (by omega) hk
 | k :: ks => by
  intro C b ns
  rw [compH, nsH]
  refine ⟨(compN_sem s L k C b ns).1, fun h => ?_⟩
  intro a e K ha hl hk
  rw [denH]
  rw [nstH] at hl
  exact (compN_sem s L k C b ns).2 h a e K ha hl hk
theorem compL_sem (s : List UInt8) (L : Nat) : ∀ ks : List NT, SemF s L (nstL ks) (compL ks) (denL s ks) (nsL ks)
 | [] => by
  intro C b ns
  rw [compL, nsL]
  refine ⟨rfl, fun _ => ?_⟩
  intro a e K ha hl hk
  rw [denL]
  exact Sem.refl C s L 0 b a e K ha (by omega) hk
 | k :: ks => by
  intro C b ns
  have h1 := compN_sem s L k C b ns
  have h2 := compL_sem s L ks C (b + (compN k b ns).1.length) (compN k b ns).2
  rw [h1.1] at h2
  rw [compL, nsL]
  refine ⟨?_, fun h => ?_⟩
  ·simp only
   rw [h1.1]
   exact h2.1
  ·simp only at h ⊢
   rw [h1.1] at h ⊢
   obtain ⟨h3, h4⟩ := h.app
   have := ((h1.2 h3).mono (Nat.le_max_left _ (nstL ks))).trans ((h2.2 h4).mono (Nat.le_max_right (nst k) _))
   rw [List.length_append, ← Nat.add_assoc]
   intro a e K ha hl hk
   rw [denL]
   rw [nstL] at hl
   exact this a e K ha hl hk
theorem compA_sem (s : List UInt8) (L E : Nat) : ∀ ks : List NT, ∀ C b ns, (compA E ks b ns).2 = nsL ks ns ∧ (Lies C b (compA E ks b ns).1 → E = b + (compA E ks b ns).1.length → Sem C s L (nstL ks) b E (denA s ks ns))
 | [], C, b, ns => by
  rw [compA, nsL]
  refine ⟨rfl, fun _ hE => ?_⟩
  simp only [List.length_nil, Nat.add_zero] at hE
  rw [hE]
  intro a e K ha hl hk
  rw [denA]
  exact Sem.refl C s L 0 b a e K ha (by omega) hk
 | [k], C, b, ns => by
  rw [compA, nsL, nsL]
  refine ⟨(compN_sem s L k C b ns).1, fun h hE => ?_⟩
  rw [hE]
  intro a e K ha hl hk
  rw [denA]
  rw [nstL, nstL] at hl
  exact (compN_sem s L k C b ns).2 h a e K ha (by omega) hk
 | k :: k2 :: ks, C, b, ns => by
  have h1 := compN_sem s L k C (b + 1) ns
  have h2 := compA_sem s L E (k2 :: ks) C (b + 1 + (compN k (b + 1) ns).1.length + 1) (compN k (b + 1) ns).2
  rw [compA_two, nsL]
  rw [h1.1] at h2
  refine ⟨?_, fun h hE => ?_⟩
  ·simp only
   rw [h1.1]
   exact h2.1
  ·simp only [List.cons_append] at h
   simp only [List.cons_append, List.length_cons, List.length_append] at hE
   rw [h1.1] at h hE
   obtain ⟨h3, h4⟩ := h.hd
   obtain ⟨h4, h5⟩ := h4.app
   obtain ⟨h5, h6⟩ := h5.hd
   have t1 := h1.2 h4
   have t2 := h2.2 h6 (by omega)
   intro a e K ha hl hk
   have hden : denA s (k :: k2 :: ks) ns a e = denN s k ns a e ++ denA s (k2 :: ks) (nsN k ns) a e := by
    rw [denA]
    intro h
    cases h
   rw [hden, fstD_app]
   rw [nstL] at hl
   exact Way.split h3 rfl (t1 a e K ha (by omega) fun a' e' hn => Way.jump h5 rfl (hk a' e' hn)) (t2 a e K ha (by omega) hk)
end
end Go.Proofs.YtmpbjaodgajnfaaGreatDoor.Mt
namespace Go.Proofs.YtmpbjaodgajnfaaGreatDoor.Mt
def shM (c : Nat) (m : Mk) : Mk := (m.1, m.2.1 + c, m.2.2)
def shO (c : Nat) (o : Out) : Out := (o.1, o.2.1, o.2.2.map (shM c))
def ShF (bs : List Nm) (D : List Nm → Nat → Nat → List Out) (fn : List Nm → List Nm) : Prop := ∀ ns, fn (bs ++ ns) = bs ++ fn ns ∧ ∀ a e, D (bs ++ ns) a e = (D ns a e).map (shO bs.length)
section
variable {bs : List Nm} {D : List Nm → Nat → Nat → List Out} {fn : List Nm → List Nm} (h : ShF bs D fn)
include h
end
end Go.Proofs.YtmpbjaodgajnfaaGreatDoor.Mt
namespace Go.Proofs.YtmpbjaodgajnfaaGreatDoor.Mt
def LtM (n : Nat) (l : List Out) : Prop := ∀ o ∈ l, ∀ m ∈ o.2.2, m.2.1 < n
theorem LtM.mono {n n' : Nat} {l : List Out} (h : LtM n l) (hn : n ≤ n') : LtM n' l := fun o ho m hm => Nat.lt_of_lt_of_le (h o ho m hm) hn
theorem LtM.app {n : Nat} {l m : List Out} (h : LtM n l) (k : LtM n m) : LtM n (l ++ m) := fun o ho => (List.mem_append.1 ho).elim (h o) (k o)
theorem LtM.one (n a e : Nat) : LtM n [(a, e, [])] := fun o ho m hm => by
 rw [List.mem_singleton] at ho
 subst ho
 cases hm
theorem LtM.nil (n : Nat) : LtM n [] := fun o ho => by cases ho
theorem LtM.seq {n : Nat} {l : List Out} {g : Nat → Nat → List Out} (h : LtM n l) (k : ∀ a e, LtM n (g a e)) : LtM n (seqD l g) := fun o ho m hm => by
 unfold seqD at ho
 rw [List.mem_flatMap] at ho
 obtain ⟨p, hp, ho⟩ := ho
 rw [List.mem_map] at ho
 obtain ⟨q, hq, rfl⟩ := ho
 rcases List.mem_append.1 hm with hm | hm
 ·exact k _ _ q hq m hm
 ·exact h p hp m hm
theorem LtM.filter {n : Nat} {l : List Out} (h : LtM n l) (p : Out → Bool) : LtM n (l.filter p) := fun o ho => h o (List.mem_filter.1 ho).1
theorem capL_le (ns : List Nm) (nm : Nm) : ns.length ≤ (capL ns nm).length := by
 unfold capL
 split
 ·exact Nat.le_refl _
 ·simp
theorem capI_lt (ns : List Nm) (nm : Nm) : capI ns nm < (capL ns nm).length := by
 unfold capI capL
 cases h : ns.findIdx? (· == nm) with
 | some i =>
  have hi : i < ns.length := (List.findIdx?_eq_some_iff_getElem.1 h).1
  split
  ·exact hi
  ·simp only [Option.getD_some, List.length_append]
   omega
 | none =>
  rw [List.findIdx?_eq_none_iff] at h
  have hc : ns.contains nm = false := by
   rw [Bool.eq_false_iff]
   intro hc
   simp only [List.contains_eq_mem, decide_eq_true_iff] at hc
   have := h nm hc
   simp at this
  rw [if_neg (by rw [hc]; decide)]
  simp
def MkF (D : List Nm → Nat → Nat → List Out) (fn : List Nm → List Nm) : Prop := ∀ ns, ns.length ≤ (fn ns).length ∧ ∀ a e, LtM (fn ns).length (D ns a e)
section
variable {D : List Nm → Nat → Nat → List Out} {fn : List Nm → List Nm} (h : MkF D fn)
include h
theorem timesN_le : ∀ n ns, ns.length ≤ (timesN fn n ns).length
 | 0, _ => Nat.le_refl _
 | n + 1, ns => Nat.le_trans (h ns).1 (timesN_le n (fn ns))
theorem timesD_mk : ∀ n ns a e, LtM (timesN fn n ns).length (timesD D fn n ns a e)
 | 0, _, a, e => LtM.one _ a e
 | n + 1, ns, a, e => LtM.seq (((h ns).2 a e).mono (timesN_le h n (fn ns))) fun a e => timesD_mk n (fn ns) a e
theorem optsD_mk : ∀ n ns a e, LtM (timesN fn n ns).length (optsD D fn n ns a e)
 | 0, _, a, e => LtM.one _ a e
 | n + 1, ns, a, e => LtM.app (LtM.seq (((h ns).2 a e).mono (timesN_le h n (fn ns))) fun a e => optsD_mk n (fn ns) a e) (LtM.one _ a e)
theorem starD_mk (ns : List Nm) : ∀ m a e, LtM (fn ns).length (starD D ns m a e)
 | 0, a, e => LtM.one _ a e
 | m + 1, a, e => LtM.app (LtM.seq (((h ns).2 a (e + 1)).filter _) fun a e => starD_mk ns m a e) (LtM.one _ a e)
theorem reptD_mk (s : List UInt8) (mn mx : Int) (ns : List Nm) (a e : Nat) : LtM (if mx = -1 then fn (timesN fn mn.toNat ns) else timesN fn (mx - mn).toNat (timesN fn mn.toNat ns)).length (reptD D fn s mn mx ns a e) := by
 unfold reptD
 split
 ·exact LtM.seq ((timesD_mk h _ ns a e).mono (h _).1) fun a e => starD_mk h _ _ a e
 ·exact LtM.seq ((timesD_mk h _ ns a e).mono (timesN_le h _ _)) fun a e => optsD_mk h _ _ a e
end
mutual
theorem capsN_le : ∀ (t : NT) (ns : List Nm), ns.length ≤ (capsN t ns).length
 | .node op rs nm kids mn mx, ns => by
  rw [capsN]
  split
  ·exact Nat.le_trans (capL_le ns nm) (capsL_le kids _)
  ·exact capsL_le kids _
theorem capsL_le : ∀ (ks : List NT) (ns : List Nm), ns.length ≤ (capsL ks ns).length
 | [], ns => by rw [capsL]; exact Nat.le_refl _
 | k :: ks, ns => by rw [capsL]; exact Nat.le_trans (capsN_le k ns) (capsL_le ks _)
end
mutual
theorem denN_mk (s : List UInt8) : ∀ t : NT, MkF (denN s t) (nsN t)
 | .node op rs nm kids mn mx => by
  have hH := denH_mk s kids
  have hL := denL_mk s kids
  intro ns
  rw [nsN]
  by_cases h0 : op = 1
  ·rw [if_pos h0]
   refine ⟨Nat.le_refl _, fun a e => ?_⟩
   rw [denN, if_pos h0]
   split
   ·exact LtM.one _ _ _
   ·exact LtM.nil _
  rw [if_neg h0]
  by_cases h2 : op = 6
  ·rw [if_pos h2]
   refine ⟨Nat.le_refl _, fun a e => ?_⟩
   rw [denN, if_neg h0, if_pos h2]
   split
   ·exact LtM.one _ _ _
   ·exact LtM.nil _
  rw [if_neg h2]
  by_cases h3 : op = 7
  ·rw [if_pos h3]
   refine ⟨Nat.le_refl _, fun a e => ?_⟩
   rw [denN, if_neg h0, if_neg h2, if_pos h3]
   split
   ·exact LtM.one _ _ _
   ·exact LtM.nil _
  rw [if_neg h3]
  by_cases h4 : op = 2
  ·rw [if_pos h4]
   refine ⟨(hL ns).1, fun a e => ?_⟩
   rw [denN, if_neg h0, if_neg h2, if_neg h3, if_pos h4]
   exact (hL ns).2 a e
  rw [if_neg h4]
  by_cases h5 : op = 3
  ·rw [if_pos h5]
   refine ⟨(hL ns).1, fun a e => ?_⟩
   rw [denN, if_neg h0, if_neg h2, if_neg h3, if_neg h4, if_pos h5]
   exact denA_mk s kids ns a e
  rw [if_neg h5]
  by_cases h6 : op = 5
  ·rw [if_pos h6]
   refine ⟨Nat.le_trans (capL_le ns nm) (hH _).1, fun a e => ?_⟩
   rw [denN, if_neg h0, if_neg h2, if_neg h3, if_neg h4, if_neg h5, if_pos h6]
   intro o ho m hm
   rw [List.mem_map] at ho
   obtain ⟨q, hq, rfl⟩ := ho
   have hlt := Nat.lt_of_lt_of_le (capI_lt ns nm) (hH (capL ns nm)).1
   simp only [List.cons_append, List.mem_cons, List.mem_append, List.not_mem_nil, or_false] at hm
   rcases hm with rfl | hm | rfl
   ·exact hlt
   ·exact (hH _).2 a e q hq m hm
   ·exact hlt
  rw [if_neg h6]
  by_cases h7 : op = 4
  ·rw [if_pos h7]
   by_cases h8 : mx = 0
   ·rw [if_pos h8]
    refine ⟨capsL_le _ ns, fun a e => ?_⟩
    rw [denN, if_neg h0, if_neg h2, if_neg h3, if_neg h4, if_neg h5, if_neg h6, if_pos h7, if_pos h8]
    exact LtM.one _ _ _
   ·rw [if_neg h8]
    refine ⟨?_, fun a e => ?_⟩
    ·split
     ·exact Nat.le_trans (timesN_le hH _ ns) (hH _).1
     ·exact Nat.le_trans (timesN_le hH _ ns) (timesN_le hH _ _)
    ·rw [denN, if_neg h0, if_neg h2, if_neg h3, if_neg h4, if_neg h5, if_neg h6, if_pos h7, if_neg h8]
     exact reptD_mk hH s mn mx ns a e
  ·rw [if_neg h7]
   refine ⟨Nat.le_refl _, fun a e => ?_⟩
   rw [denN, if_neg h0, if_neg h2, if_neg h3, if_neg h4, if_neg h5, if_neg h6, if_neg h7]
   exact LtM.one _ _ _
theorem denH_mk (s : List UInt8) : ∀ ks : List NT, MkF (denH s ks) (nsH ks)
 | [], ns => by
  rw [nsH]
  refine ⟨Nat.le_refl _, fun a e => ?_⟩
  rw [denH]
  exact LtM.one _ _ _
 | k :: ks, ns => by
  rw [nsH]
  refine ⟨(denN_mk s k ns).1, fun a e => ?_⟩
  rw [denH]
  exact (denN_mk s k ns).2 a e
theorem denL_mk (s : List UInt8) : ∀ ks : List NT, MkF (denL s ks) (nsL ks)
 | [], ns => by
  rw [nsL]
  refine ⟨Nat.le_refl _, fun a e => ?_⟩
  rw [denL]
  exact LtM.one _ _ _
 | k :: ks, ns => by
  have h1 := denN_mk s k ns
  have h2 := denL_mk s ks (nsN k ns)
  rw [nsL]
  refine ⟨Nat.le_trans h1.1 h2.1, fun a e => ?_⟩
  rw [denL]
  exact LtM.seq ((h1.2 a e).mono h2.1) fun a e => h2.2 a e
theorem denA_mk (s : List UInt8) : ∀ (ks : List NT) (ns : List Nm) (a e : Nat), LtM (nsL ks ns).length (denA s ks ns a e)
 | [], ns, a, e => by
  rw [denA]
  exact LtM.one _ _ _
 | [k], ns, a, e => by
  rw [denA, nsL, nsL]
  exact (denN_mk s k ns).2 a e
 | k :: k2 :: ks, ns, a, e => by
  have hd : denA s (k :: k2 :: ks) ns a e = denN s k ns a e ++ denA s (k2 :: ks) (nsN k ns) a e := by
   rw [denA]
   intro h
   cases h
  rw [hd, nsL]
  exact LtM.app (((denN_mk s k ns).2 a e).mono (denL_mk s (k2 :: ks) _).1) (denA_mk s (k2 :: ks) _ a e)
end
def cntM (n : Nat) (ms : List Mk) : Nat := ((List.range n).filter fun i => (fstM ms true i).isSome && (fstM ms false i).isSome).length
end Go.Proofs.YtmpbjaodgajnfaaGreatDoor.Mt
namespace Go.Proofs.YtmpbjaodgajnfaaGreatDoor.Mt
def progN (t : NT) (end_ : Bool) : List Ins := (compN t 0 []).1 ++ (if end_ = true then [⟨6, 0, 0, []⟩, ⟨9, 0, 0, []⟩] else [⟨9, 0, 0, []⟩])
def matR (s : List UInt8) (t : NT) (end_ : Bool) (a : Nat) : Res := fstD (denN s t [] a 0) fun a' _ => if end_ = true ∧ a' ≠ s.length then none else some (a', [])
theorem progN_way (s : List UInt8) (t : NT) (end_ : Bool) (a : Nat) (ha : a ≤ s.length) (L : Nat) (hL : nst t ≤ L) : Way (progN t end_) s L 0 a 0 (matR s t end_ a) := by
 have hl : Lies (progN t end_) 0 (progN t end_) := fun k hk => by rw [Nat.zero_add]; exact List.getElem?_eq_getElem hk
 obtain ⟨C, hC⟩ : ∃ C, progN t end_ = C := ⟨_, rfl⟩
 rw [show Lies (progN t end_) 0 (progN t end_) = Lies C 0 (progN t end_) by rw [hC]] at hl
 rw [hC]
 clear hC
 unfold progN at hl
 obtain ⟨h1, h2⟩ := hl.app
 refine (compN_sem s L t _ 0 []).2 h1 a 0 _ ha (by omega) fun a' e' hn => ?_
 have he : e' ≤ L := by have := hn.lt; omega
 cases end_ with
 | false =>
  rw [if_neg (by decide)] at h2
  rw [if_neg (by rintro ⟨h, _⟩; cases h)]
  exact Way.fin he h2.hd.1 rfl
 | true =>
  rw [if_pos rfl] at h2
  obtain ⟨h3, h4⟩ := h2.hd
  by_cases hb : a' = s.length
  ·rw [if_neg (fun h => h.2 hb)]
   exact Way.hit6 h3 rfl hb (Way.fin he h4.hd.1 rfl)
  ·rw [if_pos ⟨rfl, hb⟩]
   exact Way.miss6 he h3 rfl hb
end Go.Proofs.YtmpbjaodgajnfaaGreatDoor.Mt
namespace Go.Proofs.YtmpbjaodgajnfaaGreatDoor
open Go.RowKit
end Go.Proofs.YtmpbjaodgajnfaaGreatDoor
namespace Go.Proofs.YtmpbjaodgajnfaaGreatDoor
open Go.RowKit
def okR (rs : List (UInt8 × UInt8)) (i : Nat) (h : i < rs.length) : Prop := rs[i].1.toNat ≤ rs[i].2.toNat ∧ (0 < i → rs[i - 1].2.toNat + 1 < rs[i].1.toNat)
noncomputable def srtB (rs : List (UInt8 × UInt8)) : Bool := @decide (0 < rs.length ∧ ∀ i (h : i < rs.length), okR rs i h) (Classical.propDecidable _)
theorem srtB_yes {rs : List (UInt8 × UInt8)} (h : 0 < rs.length ∧ ∀ i (h : i < rs.length), okR rs i h) : srtB rs = true := by unfold srtB; exact @decide_eq_true _ (Classical.propDecidable _) h
theorem srtB_no {rs : List (UInt8 × UInt8)} (h : ¬ (0 < rs.length ∧ ∀ i (h : i < rs.length), okR rs i h)) : srtB rs = false := by unfold srtB; exact @decide_eq_false _ (Classical.propDecidable _) h
set_option maxRecDepth 100000 in
set_option maxHeartbeats 2000000 in
theorem right_any (rs : List (UInt8 × UInt8)) (v : Value) (w : World) (h : RgAt w rs v) :
  Calls Tryz.prog 131 #[v] w fun e w' => e = .returned (.bool (srtB rs)) ∧ Below w.heap.size w w' := by
 obtain ⟨a, c, rfl, hm, hk⟩ := h
 have HK := Lib.hid hk
 obtain ⟨B, hB⟩ : ∃ B, srtB rs = B := ⟨_, rfl⟩
 have HY := Lib.hid fun (h : 0 < rs.length ∧ ∀ i (h : i < rs.length), okR rs i h) => show true = B by rw [← hB, srtB_yes h]
 have HN := Lib.hid fun (h : ¬ (0 < rs.length ∧ ∀ i (h : i < rs.length), okR rs i h)) => show false = B by rw [← hB, srtB_no h]
 rw [hB]
 clear hk hB
 go_enter Tryz.func131, Tryz.ntmps131
 go_wp2_with fail
 go_loopw [7] (fun i wr => ∃ k : Nat, i = .int .i64 k ∧ k ≤ rs.length ∧ Hid (∀ i (h : i < rs.length), i < k → okR rs i h) ∧ Below w.heap.size w wr) (fun i _ => rs.length - (intOf i).toNat)
 case atStart => exact ⟨0, rfl, by omega, Lib.hid (fun _ _ h => by omega), Below.refl _ _⟩
 case round =>
  obtain ⟨k, rfl, hkl, hok, hb⟩ := hrel
  have HB := Lib.hid hb
  by_cases hlt : k < rs.length
  ·obtain ⟨blk, off, rfl, hl, c0, c1⟩ := HK.out k hlt
   have e0 := (hb.cell (p := ⟨blk, off + k * 2, none⟩) hl).trans c0
   have e1 := (hb.cell (p := ⟨blk, off + k * 2 + 1, none⟩) hl).trans c1
   have i1 : (k : Int) < (rs.length : Int) := by omega
   have i2 : (0 : Int) ≤ (k : Int) := by omega
   have hlw : blk < wr.heap.size := Nat.lt_of_lt_of_le hl hb.size
   have HOK := Lib.hid (show okR rs k hlt ↔ (rs[k].1.toNat ≤ rs[k].2.toNat ∧ (0 < k → rs[k - 1].2.toNat + 1 < rs[k].1.toNat)) from Iff.rfl)
   have hlo := rs[k].1.toNat_lt
   have hhi := rs[k].2.toNat_lt
   have HPV : Hid (0 < k → ∃ p : Nat, rs[k - 1].2.toNat = p ∧ p < 256 ∧ wr.cell? ⟨blk, off + (k - 1) * 2 + 1, none⟩ = some (.int .u8 (p : Int))) := Lib.hid (fun h0 => by
    obtain ⟨blk', off', e, _, _, c1'⟩ := HK.out (k - 1) (by omega)
    simp only [Option.some.injEq, Addr.mk.injEq, and_true] at e
    obtain ⟨rfl, rfl⟩ := e
    exact ⟨_, rfl, rs[k - 1].2.toNat_lt, (hb.cell (p := ⟨blk, off + (k - 1) * 2 + 1, none⟩) hl).trans c1'⟩)
   obtain ⟨lo, hlo1⟩ : ∃ lo, rs[k].1.toNat = lo := ⟨_, rfl⟩
   obtain ⟨hi, hhi1⟩ : ∃ hi, rs[k].2.toNat = hi := ⟨_, rfl⟩
   rw [hlo1] at e0 hlo HOK
   rw [hhi1] at e1 hhi HOK
   have HBA := Lib.hid (hb.alloc hb.size (.cells #[.int .u8 lo, .int .u8 hi] 187))
   clear c0 c1 hlo1 hhi1 hb
   by_cases h1 : lo ≤ hi
   ·have z1 : decide ((hi : Int) < (lo : Int)) = false := decide_eq_false (by omega)
    by_cases h2 : 0 < k
    ·obtain ⟨p, hp1, hp2, hp3⟩ := HPV.out h2
     have z2 : decide ((0 : Int) < (k : Int)) = true := decide_eq_true (by omega)
     have j1 : ((k : Int) - 1) < (rs.length : Int) := by omega
     have j4 : (1 : Int) ≤ (k : Int) := by omega
     have j5 : (k : Int) ≤ (rs.length : Int) := by omega
     have j6 : 1 ≤ k := h2
     have j2 : (0 : Int) ≤ (k : Int) - 1 := by omega
     have j3 : ((k : Int) - 1).toNat = k - 1 := by omega
     rw [hp1] at HOK
     clear hp1 HPV
     by_cases h3 : p + 1 < lo
     ·have z3 : decide ((lo : Int) ≤ (p : Int) + 1) = false := decide_eq_false (by omega)
      have HO : Hid (∀ i (h : i < rs.length), i < k + 1 → okR rs i h) := Lib.hid (fun i h hi' => by
       by_cases e : i = k
       ·subst e; exact HOK.out.2 ⟨h1, fun _ => h3⟩
       ·exact hok.out i h (by omega))
      have z4 : decide (hi < lo) = false := decide_eq_false (by omega)
      have s3 : IntKind.i64.wrap (lo : Int) = (lo : Int) := IntWalk.i64_in _ (by omega)
      have s4 : IntKind.i64.wrap (p : Int) = (p : Int) := IntWalk.i64_in _ (by omega)
      have s1 : IntKind.i64.wrap ((k : Int) - 1) = (k : Int) - 1 := IntWalk.i64_in _ (by omega)
      have s2 : IntKind.i64.wrap ((p : Int) + 1) = (p : Int) + 1 := IntWalk.i64_in _ (by omega)
      go_wp2_with fail
      go_quiet (fail)
      clear s1 s2 s3 s4
      go_wp2_with fail
      go_roundw
      case rel => exact ⟨k + 1, by go_num, by omega, HO, below_drewN HBA.out _⟩
      case measure => simp [intOf]; omega
     ·have z3 : decide ((lo : Int) ≤ (p : Int) + 1) = true := decide_eq_true (by omega)
      have HX : Hid (false = B) := Lib.hid (HN.out fun h => h3 ((HOK.out.1 (h.2 k hlt)).2 h2))
      have z4 : decide (hi < lo) = false := decide_eq_false (by omega)
      have s3 : IntKind.i64.wrap (lo : Int) = (lo : Int) := IntWalk.i64_in _ (by omega)
      have s4 : IntKind.i64.wrap (p : Int) = (p : Int) := IntWalk.i64_in _ (by omega)
      have s1 : IntKind.i64.wrap ((k : Int) - 1) = (k : Int) - 1 := IntWalk.i64_in _ (by omega)
      have s2 : IntKind.i64.wrap ((p : Int) + 1) = (p : Int) + 1 := IntWalk.i64_in _ (by omega)
      go_wp2_with fail
      go_quiet (fail)
      clear s1 s2 s3 s4
      go_wp2_with fail
      go_ret
      exact ⟨ret_bool HX.out, below_drewN HBA.out _⟩
    ·have z2 : decide ((0 : Int) < (k : Int)) = false := decide_eq_false (by omega)
     have HO : Hid (∀ i (h : i < rs.length), i < k + 1 → okR rs i h) := Lib.hid (fun i h hi' => by
      by_cases e : i = k
      ·subst e; exact HOK.out.2 ⟨h1, fun h => absurd h h2⟩
      ·exact hok.out i h (by omega))
     have z4 : decide (hi < lo) = false := decide_eq_false (by omega)
     go_wp2_with fail
     go_quiet (fail)
     clear z4
     go_wp2_with fail
     go_roundw
     case rel => exact ⟨k + 1, by go_num, by omega, HO, below_drewN HBA.out _⟩
     case measure => simp [intOf]; omega
   ·have z1 : decide ((hi : Int) < (lo : Int)) = true := decide_eq_true (by omega)
    have z4 : decide (hi < lo) = true := decide_eq_true (by omega)
    have HX : Hid (false = B) := Lib.hid (HN.out fun h => h1 (HOK.out.1 (h.2 k hlt)).1)
    go_wp2_with fail
    go_quiet (fail)
    clear z4
    go_wp2_with fail
    go_ret
    exact ⟨ret_bool HX.out, below_drewN HBA.out _⟩
  ·obtain rfl : k = rs.length := by omega
   by_cases h0 : 0 < rs.length
   ·have HX : Hid (true = B) := Lib.hid (HY.out ⟨h0, fun i h => hok.out i h h⟩)
    have z0 : decide ((0 : Int) < (rs.length : Int)) = true := decide_eq_true (by omega)
    go_wp2_with fail
    go_ret
    exact ⟨ret_bool HX.out, HB.out⟩
   ·have HX : Hid (false = B) := Lib.hid (HN.out fun h => h0 h.1)
    have z0 : decide ((0 : Int) < (rs.length : Int)) = false := decide_eq_false (by omega)
    go_wp2_with fail
    go_ret
    exact ⟨ret_bool HX.out, HB.out⟩
end Go.Proofs.YtmpbjaodgajnfaaGreatDoor
namespace Go.Proofs.YtmpbjaodgajnfaaGreatDoor
open Go.RowKit
namespace Asc
def isDigit (c : Nat) : Bool := decide (48 ≤ c ∧ c ≤ 57)
def isLetter (c : Nat) : Bool := decide (97 ≤ c ∧ c ≤ 122 ∨ 65 ≤ c ∧ c ≤ 90)
def isSpace (c : Nat) : Bool := decide (c = 32 ∨ c = 9)
def isWord (c : Nat) : Bool := isDigit c || isLetter c || decide (c = 95)
def kind (c : Nat) : Nat := if isDigit c then 1 else if isLetter c then 2 else if isSpace c then 4 else 0
def kTab : List Int := (List.range 256).map fun c => (kind c : Int)
theorem kTab_at (c : Nat) (h : c < 256) : kTab.getD c 0 = (kind c : Nat) := by
 unfold kTab
 simp [List.getD, h]
theorem kind_cases (c : Nat) : (kind c = 1 ∧ isDigit c = true ∧ isLetter c = false ∧ isSpace c = false) ∨ (kind c = 2 ∧ isDigit c = false ∧ isLetter c = true ∧ isSpace c = false) ∨
  (kind c = 4 ∧ isDigit c = false ∧ isLetter c = false ∧ isSpace c = true) ∨ (kind c = 0 ∧ isDigit c = false ∧ isLetter c = false ∧ isSpace c = false) := by
 unfold kind
 by_cases h1 : isDigit c = true
 ·refine .inl ⟨by rw [if_pos h1], h1, ?_, ?_⟩
  ·unfold isDigit at h1; unfold isLetter; simp at h1 ⊢; omega
  ·unfold isDigit at h1; unfold isSpace; simp at h1 ⊢; omega
 ·rw [if_neg h1]
  by_cases h2 : isLetter c = true
  ·refine .inr (.inl ⟨by rw [if_pos h2], by simpa using h1, h2, ?_⟩)
   unfold isLetter at h2; unfold isSpace; simp at h2 ⊢; omega
  ·rw [if_neg h2]
   by_cases h3 : isSpace c = true
   ·exact .inr (.inr (.inl ⟨by rw [if_pos h3], by simpa using h1, by simpa using h2, h3⟩))
   ·exact .inr (.inr (.inr ⟨by rw [if_neg h3], by simpa using h1, by simpa using h2, by simpa using h3⟩))
end Asc
def Kinds (w : World) : Prop := 1 < w.heap.size ∧ ∀ c, c < 256 → w.cell? ⟨1, c, none⟩ = some (.int .u8 (Asc.kind c : Nat))
theorem Kinds.below {w w' : World} (h : Kinds w) (hb : Below w.heap.size w w') : Kinds w' :=
 ⟨Nat.lt_of_lt_of_le h.1 hb.size, fun c hc => (hb.cell (p := ⟨1, c, none⟩) h.1).trans (h.2 c hc)⟩
theorem Kinds.alloc {w : World} (h : Kinds w) (o : Obj) : Kinds (w.alloc o) := h.below ((Below.refl _ _).alloc (Nat.le_refl _) o)
theorem digit_any (c : Nat) (w : World) (hc : c < 256) (hk : Kinds w) :
  Calls Tryz.prog 170 #[.int .u8 c] w fun e w' => e = .returned (.bool (Asc.isDigit c)) ∧ w = w' := by
 have h := hk.2 c hc
 clear hk
 rcases Asc.kind_cases c with ⟨k, d, l, s⟩ | ⟨k, d, l, s⟩ | ⟨k, d, l, s⟩ | ⟨k, d, l, s⟩
 all_goals
  rw [k] at h
  rw [d]
  clear k d l s
  go_enter Tryz.func170, Tryz.ntmps170
  go_wp2_with fail
  go_ret
  exact ⟨by first | rfl | decide, rfl⟩
theorem letter_any (c : Nat) (w : World) (hc : c < 256) (hk : Kinds w) :
  Calls Tryz.prog 157 #[.int .u8 c] w fun e w' => e = .returned (.bool (Asc.isLetter c)) ∧ w = w' := by
 have h := hk.2 c hc
 clear hk
 rcases Asc.kind_cases c with ⟨k, d, l, s⟩ | ⟨k, d, l, s⟩ | ⟨k, d, l, s⟩ | ⟨k, d, l, s⟩
 all_goals
  rw [k] at h
  rw [l]
  clear k d l s
  go_enter Tryz.func157, Tryz.ntmps157
  go_wp2_with fail
  go_ret
  exact ⟨by first | rfl | decide, rfl⟩
theorem space_any (c : Nat) (w : World) (hc : c < 256) (hk : Kinds w) :
  Calls Tryz.prog 171 #[.int .u8 c] w fun e w' => e = .returned (.bool (Asc.isSpace c)) ∧ w = w' := by
 have h := hk.2 c hc
 clear hk
 rcases Asc.kind_cases c with ⟨k, d, l, s⟩ | ⟨k, d, l, s⟩ | ⟨k, d, l, s⟩ | ⟨k, d, l, s⟩
 all_goals
  rw [k] at h
  rw [s]
  clear k d l s
  go_enter Tryz.func171, Tryz.ntmps171
  go_wp2_with fail
  go_ret
  exact ⟨by first | rfl | decide, rfl⟩
theorem word_any (c : Nat) (w : World) (hc : c < 256) (hk : Kinds w) :
  Calls Tryz.prog 158 #[.int .u8 c] w fun e w' => e = .returned (.bool (Asc.isWord c)) ∧ w = w' := by
 have h := hk.2 c hc
 clear hk
 rcases Asc.kind_cases c with ⟨k, d, l, s⟩ | ⟨k, d, l, s⟩ | ⟨k, d, l, s⟩ | ⟨k, d, l, s⟩
 all_goals
  rw [k] at h
  have hf : Asc.isWord c = (Asc.isDigit c || Asc.isLetter c || decide (c = 95)) := rfl
  rw [d, l] at hf
  simp only [Bool.true_or, Bool.or_true, Bool.false_or] at hf
  rw [hf]
  clear k d l s hf
  go_enter Tryz.func158, Tryz.ntmps158
  go_wp2_with fail
  go_ret
  exact ⟨by first | rfl | decide | exact ret_bool (by rw [Bool.eq_iff_iff]; simp; omega), rfl⟩
theorem rdigit_any (c : Nat) (w : World) (hc : c < 256) :
  Calls Tryz.prog 120 #[.int .u8 c] w fun e w' => e = .returned (.bool (Asc.isDigit c)) ∧ w = w' := by
 have hf := Lib.hid (show Asc.isDigit c = decide (48 ≤ c ∧ c ≤ 57) from rfl)
 go_enter Tryz.func120, Tryz.ntmps120
 go_wp2_with fail
 all_goals
  go_ret
  exact ⟨ret_bool (by rw [hf.out, Bool.eq_iff_iff]; simp; omega), rfl⟩
theorem rletter_any (c : Nat) (w : World) (hc : c < 256) :
  Calls Tryz.prog 91 #[.int .u8 c] w fun e w' => e = .returned (.bool (Asc.isLetter c)) ∧ w = w' := by
 have hf := Lib.hid (show Asc.isLetter c = decide (97 ≤ c ∧ c ≤ 122 ∨ 65 ≤ c ∧ c ≤ 90) from rfl)
 go_enter Tryz.func91, Tryz.ntmps91
 go_wp2_with fail
 all_goals
  go_ret
  exact ⟨ret_bool (by rw [hf.out, Bool.eq_iff_iff]; simp; omega), rfl⟩
theorem rword_any (c : Nat) (w : World) (hc : c < 256) :
  Calls Tryz.prog 92 #[.int .u8 c] w fun e w' => e = .returned (.bool (Asc.isWord c)) ∧ w = w' := by
 have hf := Lib.hid (show Asc.isWord c = (Asc.isDigit c || Asc.isLetter c || decide (c = 95)) from rfl)
 go_enter Tryz.func92, Tryz.ntmps92
 go_wp2_with (first | (go_at_call 120; refine (rdigit_any c w hc).mono ?_; rintro e w' ⟨rfl, rfl⟩) | (go_at_call 91; refine (rletter_any c w hc).mono ?_; rintro e w' ⟨rfl, rfl⟩))
 all_goals
  go_ret
  exact ⟨ret_bool (by rw [hf.out]; rw [Bool.eq_iff_iff]; simp_all <;> omega), rfl⟩
end Go.Proofs.YtmpbjaodgajnfaaGreatDoor
namespace Go.Proofs.YtmpbjaodgajnfaaGreatDoor
open Go.RowKit
def nlen (l : List UInt8) : Nat := match l with
 | [] => 0
 | c :: t => if Asc.isLetter c.toNat = true then (if 32 < 1 + (t.takeWhile fun x => Asc.isWord x.toNat).length then 0 else 1 + (t.takeWhile fun x => Asc.isWord x.toNat).length) else 0
theorem tw_len {t : List UInt8} {k : Nat} (hk : k ≤ t.length) (h : ∀ i (h : i < t.length), i < k → Asc.isWord (t[i]).toNat = true) (hs : ∀ h : k < t.length, Asc.isWord (t[k]).toNat = false) : (t.takeWhile fun x => Asc.isWord x.toNat).length = k := by
 induction t generalizing k with
 | nil => simp at hk; subst hk; rfl
 | cons c t ih =>
  cases k with
  | zero =>
   have := hs (by simp)
   simp only [List.getElem_cons_zero] at this
   rw [List.takeWhile_cons, this]
   rfl
  | succ k =>
   have h0 := h 0 (by simp) (by omega)
   simp only [List.getElem_cons_zero] at h0
   rw [List.takeWhile_cons, if_pos h0, List.length_cons, ih (k := k) (by simpa using hk) (fun i hi hik => by have := h (i + 1) (by simp; omega) (by omega); simpa using this) (fun hh => by have := hs (by simp; omega); simpa using this)]
theorem nlen_at {l : List UInt8} {k : Nat} (h1 : 1 ≤ k) (hk : k ≤ l.length) (hL : Asc.isLetter (l[0]'(by omega)).toNat = true) (h : ∀ i (h : i < l.length), 1 ≤ i → i < k → Asc.isWord (l[i]).toNat = true) (hs : ∀ h : k < l.length, Asc.isWord (l[k]).toNat = false) : nlen l = if 32 < k then 0 else k := by
 cases l with
 | nil => simp at hk; omega
 | cons c t =>
  obtain ⟨m, rfl⟩ : ∃ m, k = m + 1 := ⟨k - 1, by omega⟩
  have := tw_len (t := t) (k := m) (by simpa using hk) (fun i hi him => by have := h (i + 1) (by simp; omega) (by omega) (by omega); simpa using this) (fun hh => by have := hs (by simp; omega); simpa using this)
  simp only [List.getElem_cons_zero] at hL
  rw [nlen, if_pos hL, this, Nat.add_comm 1 m]
theorem nlen_no {l : List UInt8} (h : 0 < l.length) (hL : Asc.isLetter (l[0]).toNat = false) : nlen l = 0 := by
 cases l with
 | nil => simp at h
 | cons c t =>
  simp only [List.getElem_cons_zero] at hL
  rw [nlen, if_neg (by rw [hL]; decide)]
def NmOk (l : List UInt8) : Prop := 0 < l.length ∧ l.length ≤ 32 ∧ (∀ h : 0 < l.length, Asc.isLetter (l[0]).toNat = true) ∧ ∀ i (h : i < l.length), Asc.isWord (l[i]).toNat = true
noncomputable def nmB (l : List UInt8) : Bool := @decide (NmOk l) (Classical.propDecidable _)
theorem nmB_yes {l : List UInt8} (h : NmOk l) : nmB l = true := by unfold nmB; exact @decide_eq_true _ (Classical.propDecidable _) h
theorem nmB_no {l : List UInt8} (h : ¬ NmOk l) : nmB l = false := by unfold nmB; exact @decide_eq_false _ (Classical.propDecidable _) h
theorem nlen_le (l : List UInt8) : nlen l ≤ l.length := by
 cases l with
 | nil => exact Nat.le_refl _
 | cons c t =>
  rw [nlen]
  have := (List.takeWhile_prefix (p := fun x : UInt8 => Asc.isWord x.toNat) (l := t)).length_le
  split
  ·split
   ·simp
   ·simp only [List.length_cons]; omega
  ·simp
theorem nm_iff {l : List UInt8} (h : 0 < l.length) : NmOk l ↔ nlen l = l.length := by
 cases l with
 | nil => simp at h
 | cons c t =>
  have hp := (List.takeWhile_prefix (p := fun x : UInt8 => Asc.isWord x.toNat) (l := t))
  constructor
  ·rintro ⟨_, h2, h3, h4⟩
   have := nlen_at (l := c :: t) (k := (c :: t).length) (by simp) (Nat.le_refl _) (h3 h) (fun i hi _ _ => h4 i hi) (fun hh => by omega)
   rw [this, if_neg (by omega)]
  ·intro e
   rw [nlen] at e
   have hlen := hp.length_le
   by_cases hL : Asc.isLetter c.toNat = true
   ·rw [if_pos hL] at e
    by_cases h32 : 32 < 1 + (t.takeWhile fun x => Asc.isWord x.toNat).length
    ·rw [if_pos h32] at e; simp at e
    ·rw [if_neg h32] at e
     simp only [List.length_cons] at e
     have ht : t.takeWhile (fun x => Asc.isWord x.toNat) = t := hp.eq_of_length (by omega)
     refine ⟨h, by simp; omega, fun _ => hL, fun i hi => ?_⟩
     cases i with
     | zero => simp only [List.getElem_cons_zero]; unfold Asc.isWord; simp [hL]
     | succ i =>
      simp only [List.getElem_cons_succ]
      have hm : t[i]'(by simpa using hi) ∈ t.takeWhile (fun x => Asc.isWord x.toNat) := by rw [ht]; exact List.getElem_mem _
      exact List.all_eq_true.1 (List.all_takeWhile (l := t) (p := fun x : UInt8 => Asc.isWord x.toNat)) _ hm
   ·rw [if_neg hL] at e; simp at e
set_option maxRecDepth 100000 in
set_option maxHeartbeats 2000000 in
theorem nlen_any (l : List UInt8) (w : World) (hk : Kinds w) (hml : l.length ≤ 9223372036854775807) :
  Calls Tryz.prog 132 #[.string ⟨l.toArray⟩] w fun e w' => e = .returned (.int .i64 (nlen l)) ∧ w = w' := by
 rcases Nat.eq_zero_or_pos l.length with h0 | hpos
 ·obtain rfl := List.length_eq_zero_iff.1 h0
  clear h0 hml
  go_enter Tryz.func132, Tryz.ntmps132
  go_wp2_with fail
  go_ret
  exact ⟨rfl, rfl⟩
 ·have e2 : (l.isEmpty) = false := by cases l with | nil => simp at hpos | cons a b => rfl
  obtain ⟨c0, ⟨_, hx0⟩, hc0, hb0⟩ := byte_at l 0 hpos
  have HL := Lib.hid (letter_any c0 w hb0 hk)
  have HKW := Lib.hid hk
  obtain ⟨R, hR⟩ : ∃ R, nlen l = R := ⟨_, rfl⟩
  have HR := Lib.hid hR
  rw [hR]
  have HC0 := Lib.hid hc0
  clear hk hR hc0
  cases hl : Asc.isLetter c0
  ·have HZ : Hid ((0 : Nat) = R) := Lib.hid (by rw [← HR.out, nlen_no hpos (by rw [HC0.out]; exact hl)])
   rw [hl] at HL
   clear hl
   go_enter Tryz.func132, Tryz.ntmps132
   go_wp2_with (go_at_call 157; refine HL.out.mono ?_; rintro e w' ⟨rfl, rfl⟩)
   go_ret
   exact ⟨ret_int (by rw [← HZ.out]; rfl), rfl⟩
  ·have HA : Hid (∀ k, 1 ≤ k → k ≤ l.length → (∀ i (h : i < l.length), 1 ≤ i → i < k → Asc.isWord (l[i]).toNat = true) → (∀ h : k < l.length, Asc.isWord (l[k]).toNat = false) → (if 32 < k then 0 else k) = R) :=
    Lib.hid (fun k h1 h2 h3 h4 => by rw [← HR.out, nlen_at h1 h2 (by rw [HC0.out]; exact hl) h3 h4])
   rw [hl] at HL
   clear hl hx0
   obtain ⟨c0', ⟨_, hx0⟩, hc0', _⟩ := byte_at l 0 hpos
   have ec : c0' = c0 := hc0'.symm.trans HC0.out
   rw [ec] at hx0
   clear hc0' ec
   go_enter Tryz.func132, Tryz.ntmps132
   go_wp2_with (go_at_call 157; refine HL.out.mono ?_; rintro e w' ⟨rfl, rfl⟩)
   go_loop [3] (fun i => ∃ k : Nat, 1 ≤ k ∧ k ≤ l.length ∧ i = .int .i64 k ∧ Hid (∀ i (h : i < l.length), 1 ≤ i → i < k → Asc.isWord (l[i]).toNat = true)) (fun i => l.length - (intOf i).toNat)
   case atStart => exact ⟨1, by omega, by omega, rfl, Lib.hid (fun _ _ _ _ => by omega)⟩
   case round =>
    obtain ⟨k, hk1, hkl, rfl, HALL⟩ := hrel
    by_cases hlt : k < l.length
    ·obtain ⟨c, ⟨_, hx⟩, hc, hb⟩ := byte_at l k hlt
     have HC := Lib.hid hc
     have HW := Lib.hid (word_any c w hb HKW.out)
     clear hc hx0
     cases hw : Asc.isWord c
     ·have HZ : Hid ((if 32 < k then 0 else k) = R) := Lib.hid (HA.out k hk1 hkl HALL.out (fun _ => by rw [HC.out]; exact hw))
      rw [hw] at HW
      clear hw
      by_cases h32 : 32 < k
      ·have z1 : decide ((32 : Int) < (k : Int)) = true := decide_eq_true (by omega)
       have HZ2 : Hid ((0 : Nat) = R) := Lib.hid (by rw [← HZ.out, if_pos h32])
       go_wp2_with (go_at_call 158; refine HW.out.mono ?_; rintro e w' ⟨rfl, rfl⟩)
       go_ret
       exact ⟨ret_int (by rw [← HZ2.out]; rfl), rfl⟩
      ·have z1 : decide ((32 : Int) < (k : Int)) = false := decide_eq_false (by omega)
       have HZ2 : Hid (k = R) := Lib.hid (by rw [← HZ.out, if_neg h32])
       go_wp2_with (go_at_call 158; refine HW.out.mono ?_; rintro e w' ⟨rfl, rfl⟩)
       go_ret
       exact ⟨ret_int (by rw [← HZ2.out]), rfl⟩
     ·have HN : Hid (∀ i (h : i < l.length), 1 ≤ i → i < k + 1 → Asc.isWord (l[i]).toNat = true) := Lib.hid (fun i h h1 h2 => by
       by_cases e : i = k
       ·subst e; rw [HC.out]; exact hw
       ·exact HALL.out i h h1 (by omega))
      rw [hw] at HW
      clear hw
      go_wp2_with (go_at_call 158; refine HW.out.mono ?_; rintro e w' ⟨rfl, rfl⟩)
      go_round
      case rel => exact ⟨k + 1, by omega, by omega, by go_num, HN⟩
      case measure => simp [intOf]; omega
    ·obtain rfl : k = l.length := by omega
     have HZ : Hid ((if 32 < l.length then 0 else l.length) = R) := Lib.hid (HA.out _ hk1 hkl HALL.out (fun hh => by omega))
     by_cases h32 : 32 < l.length
     ·have z1 : decide ((32 : Int) < (l.length : Int)) = true := decide_eq_true (by omega)
      have HZ2 : Hid ((0 : Nat) = R) := Lib.hid (by rw [← HZ.out, if_pos h32])
      go_wp2_with fail
      go_ret
      exact ⟨ret_int (by rw [← HZ2.out]; rfl), rfl⟩
     ·have z1 : decide ((32 : Int) < (l.length : Int)) = false := decide_eq_false (by omega)
      have HZ2 : Hid (l.length = R) := Lib.hid (by rw [← HZ.out, if_neg h32])
      go_wp2_with fail
      go_ret
      exact ⟨ret_int (by rw [← HZ2.out]), rfl⟩
set_option maxRecDepth 100000 in
theorem isname_any (l : List UInt8) (w : World) (hk : Kinds w) (hml : l.length ≤ 9223372036854775807) :
  Calls Tryz.prog 105 #[.string ⟨l.toArray⟩] w fun e w' => e = .returned (.bool (nmB l)) ∧ w = w' := by
 rcases Nat.eq_zero_or_pos l.length with h0 | hpos
 ·obtain rfl := List.length_eq_zero_iff.1 h0
  rw [nmB_no (fun h => by have := h.1; simp at this)]
  clear h0 hml
  go_enter Tryz.func105, Tryz.ntmps105
  go_wp2_with fail
  go_ret
  exact ⟨rfl, rfl⟩
 ·have e2 : (l.isEmpty) = false := by cases l with | nil => simp at hpos | cons a b => rfl
  have HN := Lib.hid (nlen_any l w hk hml)
  have hle := nlen_le l
  have HI := Lib.hid (nm_iff hpos)
  obtain ⟨n, hn⟩ : ∃ n, nlen l = n := ⟨_, rfl⟩
  rw [hn] at HN hle HI
  clear hn hk
  by_cases e : n = l.length
  ·rw [nmB_yes (HI.out.2 e)]
   subst e
   clear hle
   go_enter Tryz.func105, Tryz.ntmps105
   go_wp2_with (go_at_call 132; refine HN.out.mono ?_; rintro e w' ⟨rfl, rfl⟩)
   go_ret
   exact ⟨rfl, rfl⟩
  ·rw [nmB_no (fun h => e (HI.out.1 h))]
   have z1 : ((n : Int) == (l.length : Int)) = false := by rw [beq_eq_false_iff_ne]; omega
   clear HI
   go_enter Tryz.func105, Tryz.ntmps105
   go_wp2_with (go_at_call 132; refine HN.out.mono ?_; rintro e w' ⟨rfl, rfl⟩)
   go_ret
   exact ⟨ret_bool (by first | rfl | simpa using e), rfl⟩
end Go.Proofs.YtmpbjaodgajnfaaGreatDoor

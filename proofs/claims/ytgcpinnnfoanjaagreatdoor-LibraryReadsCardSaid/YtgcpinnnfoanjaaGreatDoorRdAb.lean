/-
 Joined: Shelf, LbB, LbC.
-/
import Derived.Shelf.Strings.Builder1
import Derived.Shelf.Small.Utf8
import Derived.Shelf.Small.Strs
import Derived.Shelf.Strings.BuilderF
import Derived.Shelf.Strings.BuilderK
import Derived.Shelf.Utf8.RuneCount
import Derived.Shelf.Strings.Search1
import Derived.Shelf.Strings.Search2
import Derived.Shelf.Strings.Search3
import Derived.Shelf.Strings.Count
import Derived.Shelf.LaysM
import Derived.Shelf.Strings.Shaped
import Derived.Shelf.Strings.Prefix
import Derived.Shelf.Strings.Split
import Derived.Shelf.Strings.SplitShaped
import Derived.Shelf.Unicode.Decode
import Derived.Shelf.Strings.Runes
import Derived.Shelf.Strings.RuneCount
import Derived.Shelf.Strings.AsciiSet
import Derived.Shelf.Strings.Explode
import Derived.Shelf.Unicode.DecodeSlow
import Derived.Shelf.Unicode.DecodeAny
import Derived.Shelf.Unicode.DecodeLast
import Derived.Shelf.Strings.BuilderCap
import Derived.Shelf.Slices.Turned
import Derived.Test.YtgcpinnnfoanjaaGreatDoorProg
import Derived.Test.YtgcpinnnfoanjaaGreatDoorRdA
import Derived.Laws.Rows
import Derived.Test.YtgcpinnnfoanjaaGreatDoorRdZa
namespace Go.Proofs
open Go.Shelf
def Tryz.lays169_ren : Go.Shelf.Ren := ⟨fun | 169 => 32 | n => n, fun | 70 => 63 | 9 => 9 | 0 => 0 | 72 => 65 | 37 => 22 | 127 => 98 | 3 => 3 | 5 => 5 | n => n, fun | n => n⟩
theorem Tryz.lays169 : Go.Proofs.Lays.n169 Tryz.prog Tryz.lays169_ren := {
 mixed := by kernel_rfl
 f169 := Tryz.func32.trans (congrArg some (by kernel_rfl))
 t0 := Tryz.underlying0
 a0 := Tryz.isAgg0
 z0 := Tryz.sizeOf0
 v0 := Tryz.zeroValue0
 t3 := Tryz.underlying3
 a3 := Tryz.isAgg3
 z3 := Tryz.sizeOf3
 v3 := Tryz.zeroValue3
 t9 := Tryz.underlying9
 a9 := Tryz.isAgg9
 z9 := Tryz.sizeOf9
 v9 := Tryz.zeroValue9
 t37 := Tryz.underlying22
 a37 := Tryz.isAgg22
 z37 := Tryz.sizeOf22
 v37 := Tryz.zeroValue22
 t70 := Tryz.underlying63
 a70 := Tryz.isAgg63
 z70 := Tryz.sizeOf63
 v70 := Tryz.zeroValue63
 t72 := Tryz.underlying65
 a72 := Tryz.isAgg65
 z72 := Tryz.sizeOf65
 v72 := Tryz.zeroValue65
 t127 := Tryz.underlying98
 a127 := Tryz.isAgg98
 z127 := Tryz.sizeOf98
 v127 := Tryz.zeroValue98 }
theorem Tryz.Builder_Extra_169 : Builder.Extra Tryz.prog Tryz.lays169_ren := {
 sizeBuilder := by kernel_rfl
 liesBuilder := by kernel_rfl
 t5 := Tryz.underlying5
 a5 := Tryz.isAgg5
 z5 := Tryz.sizeOf5
 v5 := Tryz.zeroValue5
 infoByte := by kernel_rfl
 cellsByte := by kernel_rfl
 sizeByte := by kernel_rfl
 neB5 := by decide }
open Go.RowKit in
theorem Tryz.Builder_String_any (B b : Nat) (l : List UInt8) (w : World) (h : Lib.IsBuilder 65 5 B b (Lib.byteCells l) w) (hBw : B ≤ w.heap.size) :
  Calls Tryz.prog 32 #[.pointer (some ⟨b, 0, none⟩)] w fun e w' => e = .returned (.string ⟨l.toArray⟩) ∧ Below B w w' := Any.Builder_String_any Tryz.lays169 Tryz.Builder_Extra_169 B b l w h hBw
def Tryz.lays143_ren : Go.Shelf.Ren := ⟨fun | 143 => 61 | 219 => 81 | 217 => 95 | 225 => 96 | 224 => 97 | 267 => 98 | 266 => 118 | 314 => 119 | n => n, fun | 9 => 9 | 3 => 3 | 4 => 4 | 5 => 5 | 46 => 141 | 146 => 157 | 51 => 156 | n => n, fun | 1 => 1 | n => n⟩
theorem Tryz.lays143 : Go.Proofs.Lays.n143 Tryz.prog Tryz.lays143_ren := {
 mixed := by kernel_rfl
 f143 := Tryz.func61.trans (congrArg some (by kernel_rfl))
 f217 := Tryz.func95.trans (congrArg some (by kernel_rfl))
 f219 := Tryz.func81.trans (congrArg some (by kernel_rfl))
 f224 := Tryz.func97.trans (congrArg some (by kernel_rfl))
 f225 := Tryz.func96.trans (congrArg some (by kernel_rfl))
 f266 := Tryz.func118.trans (congrArg some (by kernel_rfl))
 f267 := Tryz.func98.trans (congrArg some (by kernel_rfl))
 f314 := Tryz.func119.trans (congrArg some (by kernel_rfl))
 t3 := Tryz.underlying3
 a3 := Tryz.isAgg3
 z3 := Tryz.sizeOf3
 v3 := Tryz.zeroValue3
 t4 := Tryz.underlying4
 a4 := Tryz.isAgg4
 z4 := Tryz.sizeOf4
 v4 := Tryz.zeroValue4
 t5 := Tryz.underlying5
 a5 := Tryz.isAgg5
 z5 := Tryz.sizeOf5
 v5 := Tryz.zeroValue5
 t9 := Tryz.underlying9
 a9 := Tryz.isAgg9
 z9 := Tryz.sizeOf9
 v9 := Tryz.zeroValue9
 t46 := Tryz.underlying141
 a46 := Tryz.isAgg141
 z46 := Tryz.sizeOf141
 v46 := Tryz.zeroValue141
 t51 := Tryz.underlying156
 a51 := Tryz.isAgg156
 z51 := Tryz.sizeOf156
 v51 := Tryz.zeroValue156
 t146 := Tryz.underlying157
 a146 := Tryz.isAgg157
 z146 := Tryz.sizeOf157
 v146 := Tryz.zeroValue157
 g1 := by kernel_rfl }
open Go.RowKit Go.Lib in
theorem Tryz.strings_Index (s sub : ByteArray) (m : Int) (w : World) (hs : s.size < 4294967281) (hm : w.cell? ⟨1, 0, none⟩ = some (.int .i64 m)) :
  Calls Tryz.prog 61 #[.string s, .string sub] w fun e w' => e = .returned (.int .i64 (Lib.index s.data.toList sub.data.toList)) ∧ w' = w := Any.strings_Index Tryz.lays143 s sub m w hs hm
def Tryz.lays99_ren : Go.Shelf.Ren := ⟨fun | 99 => 82 | 206 => 99 | n => n, fun | 9 => 9 | 4 => 4 | 3 => 3 | n => n, fun | n => n⟩
theorem Tryz.lays99 : Go.Proofs.Lays.n99 Tryz.prog Tryz.lays99_ren := {
 mixed := by kernel_rfl
 f99 := Tryz.func82.trans (congrArg some (by kernel_rfl))
 f206 := Tryz.func99.trans (congrArg some (by kernel_rfl))
 t3 := Tryz.underlying3
 a3 := Tryz.isAgg3
 z3 := Tryz.sizeOf3
 v3 := Tryz.zeroValue3
 t4 := Tryz.underlying4
 a4 := Tryz.isAgg4
 z4 := Tryz.sizeOf4
 v4 := Tryz.zeroValue4
 t9 := Tryz.underlying9
 a9 := Tryz.isAgg9
 z9 := Tryz.sizeOf9
 v9 := Tryz.zeroValue9 }
open Go.RowKit Go.Lib in
theorem Tryz.strings_HasPrefix (s p : ByteArray) (w : World) :
  Calls Tryz.prog 82 #[.string s, .string p] w fun e w' => e = .returned (.bool (Lib.hasPrefix s.data.toList p.data.toList)) ∧ w' = w := Any.strings_HasPrefix Tryz.lays99 s p w
def Tryz.lays101_ren : Go.Shelf.Ren := ⟨fun | 101 => 157 | 208 => 158 | 206 => 99 | n => n, fun | 9 => 9 | 4 => 4 | 3 => 3 | n => n, fun | n => n⟩
theorem Tryz.lays101 : Go.Proofs.Lays.n101 Tryz.prog Tryz.lays101_ren := {
 mixed := by kernel_rfl
 f101 := Tryz.func157.trans (congrArg some (by kernel_rfl))
 f206 := Tryz.func99.trans (congrArg some (by kernel_rfl))
 f208 := Tryz.func158.trans (congrArg some (by kernel_rfl))
 t3 := Tryz.underlying3
 a3 := Tryz.isAgg3
 z3 := Tryz.sizeOf3
 v3 := Tryz.zeroValue3
 t4 := Tryz.underlying4
 a4 := Tryz.isAgg4
 z4 := Tryz.sizeOf4
 v4 := Tryz.zeroValue4
 t9 := Tryz.underlying9
 a9 := Tryz.isAgg9
 z9 := Tryz.sizeOf9
 v9 := Tryz.zeroValue9 }
open Go.RowKit Go.Lib in
theorem Tryz.strings_TrimPrefix (s p : ByteArray) (w : World) :
  Calls Tryz.prog 157 #[.string s, .string p] w fun e w' => e = .returned (.string ⟨(Lib.trimPrefix s.data.toList p.data.toList).toArray⟩) ∧ w' = w := Any.strings_TrimPrefix Tryz.lays101 s p w
def Tryz.lays146_ren : Go.Shelf.Ren := ⟨fun | 146 => 40 | 221 => 63 | 268 => 83 | 138 => 84 | 143 => 61 | 195 => 100 | 197 => 101 | 218 => 102 | 219 => 81 | 260 => 120 | 217 => 95 | 225 => 96 | 224 => 97 | 267 => 98 | 266 => 118 | 314 => 119 | n => n, fun | 9 => 9 | 31 => 32 | 3 => 3 | 4 => 4 | 0 => 0 | 105 => 142 | 21 => 21 | 5 => 5 | 46 => 141 | 119 => 134 | 139 => 175 | 138 => 174 | 146 => 157 | 51 => 156 | n => n, fun | 1 => 1 | 3 => 2 | 4 => 3 | n => n⟩
theorem Tryz.lays146 : Go.Proofs.Lays.n146 Tryz.prog Tryz.lays146_ren := {
 mixed := by kernel_rfl
 f138 := Tryz.func84.trans (congrArg some (by kernel_rfl))
 f143 := Tryz.func61.trans (congrArg some (by kernel_rfl))
 f146 := Tryz.func40.trans (congrArg some (by kernel_rfl))
 f195 := Tryz.func100.trans (congrArg some (by kernel_rfl))
 f197 := Tryz.func101.trans (congrArg some (by kernel_rfl))
 f217 := Tryz.func95.trans (congrArg some (by kernel_rfl))
 f218 := Tryz.func102.trans (congrArg some (by kernel_rfl))
 f219 := Tryz.func81.trans (congrArg some (by kernel_rfl))
 f221 := Tryz.func63.trans (congrArg some (by kernel_rfl))
 f224 := Tryz.func97.trans (congrArg some (by kernel_rfl))
 f225 := Tryz.func96.trans (congrArg some (by kernel_rfl))
 f260 := Tryz.func120.trans (congrArg some (by kernel_rfl))
 f266 := Tryz.func118.trans (congrArg some (by kernel_rfl))
 f267 := Tryz.func98.trans (congrArg some (by kernel_rfl))
 f268 := Tryz.func83.trans (congrArg some (by kernel_rfl))
 f314 := Tryz.func119.trans (congrArg some (by kernel_rfl))
 t0 := Tryz.underlying0
 a0 := Tryz.isAgg0
 z0 := Tryz.sizeOf0
 v0 := Tryz.zeroValue0
 t3 := Tryz.underlying3
 a3 := Tryz.isAgg3
 z3 := Tryz.sizeOf3
 v3 := Tryz.zeroValue3
 t4 := Tryz.underlying4
 a4 := Tryz.isAgg4
 z4 := Tryz.sizeOf4
 v4 := Tryz.zeroValue4
 t5 := Tryz.underlying5
 a5 := Tryz.isAgg5
 z5 := Tryz.sizeOf5
 v5 := Tryz.zeroValue5
 t9 := Tryz.underlying9
 a9 := Tryz.isAgg9
 z9 := Tryz.sizeOf9
 v9 := Tryz.zeroValue9
 t21 := Tryz.underlying21
 a21 := Tryz.isAgg21
 z21 := Tryz.sizeOf21
 v21 := Tryz.zeroValue21
 t31 := Tryz.underlying32
 a31 := Tryz.isAgg32
 z31 := Tryz.sizeOf32
 v31 := Tryz.zeroValue32
 t46 := Tryz.underlying141
 a46 := Tryz.isAgg141
 z46 := Tryz.sizeOf141
 v46 := Tryz.zeroValue141
 t51 := Tryz.underlying156
 a51 := Tryz.isAgg156
 z51 := Tryz.sizeOf156
 v51 := Tryz.zeroValue156
 t105 := Tryz.underlying142
 a105 := Tryz.isAgg142
 z105 := Tryz.sizeOf142
 v105 := Tryz.zeroValue142
 t119 := Tryz.underlying134
 a119 := Tryz.isAgg134
 z119 := Tryz.sizeOf134
 t138 := Tryz.underlying174
 a138 := Tryz.isAgg174
 z138 := Tryz.sizeOf174
 v138 := Tryz.zeroValue174
 t139 := Tryz.underlying175
 a139 := Tryz.isAgg175
 z139 := Tryz.sizeOf175
 v139 := Tryz.zeroValue175
 t146 := Tryz.underlying157
 a146 := Tryz.isAgg157
 z146 := Tryz.sizeOf157
 v146 := Tryz.zeroValue157
 g1 := by kernel_rfl
 g3 := by kernel_rfl
 g4 := by kernel_rfl }
open Go.RowKit Go.Lib in
theorem Tryz.strings_Split (s sep : ByteArray) (m : Int) (w : World) (hs : s.size < 4294967281) (hm : w.cell? ⟨1, 0, none⟩ = some (.int .i64 m)) (h1 : 1 ≤ sep.size) :
  Calls Tryz.prog 40 #[.string s, .string sep] w fun e w' =>
   e = .returned (.slice (some ⟨w.heap.size, 0, none⟩) (Lib.countB s sep + 1) (Lib.countB s sep + 1)) ∧ w' = w.alloc (.cells ((Lib.splitB sep 0 (Lib.countB s sep) s).map Value.string).toArray 9) := Any.strings_Split Tryz.lays146 (by kernel_rfl) s sep m w hs hm h1
end Go.Proofs
namespace Go.Proofs.YtgcpinnnfoanjaaGreatDoor
open Go.RowKit
theorem hp_any (l : List UInt8) (c : UInt8) (w : World) : Calls Tryz.prog 82 #[.string ⟨l.toArray⟩, .string ⟨#[c]⟩] w fun e w' => e = .returned (.bool (decide (l.head? = some c))) ∧ w = w' := by
 refine (Tryz.strings_HasPrefix ⟨l.toArray⟩ ⟨#[c]⟩ w).mono fun e w' ⟨h1, h2⟩ => ⟨?_, h2.symm⟩
 rw [h1]
 congr 2
 cases l with
 | nil => rfl
 | cons x t =>
  show Lib.hasPrefix (x :: t) [c] = _
  unfold Lib.hasPrefix
  simp only [List.isPrefixOf, Bool.and_true, List.head?_cons, Option.some.injEq]
  rw [Bool.eq_iff_iff, beq_iff_eq, decide_eq_true_iff]
  exact ⟨fun h => h.symm, fun h => h.symm⟩
theorem alb (w : World) (o : Obj) : Below w.heap.size w (w.alloc o) := (Below.refl _ w).alloc (Nat.le_refl _) o
theorem two_first (w : World) (cs cs' : Array Value) (t t' : TypeId) : ((w.alloc (.cells cs t)).alloc (.cells cs' t')).heap[w.heap.size]? = some (.cells cs t (0, 0)) :=
 ((alb (w.alloc (.cells cs t)) (.cells cs' t')).block w.heap.size (by simp)).trans (heap_alloc_new w _)
theorem infoRef : (Tryz.prog.info? 83).map (·.size) = some 4 := by kernel_rfl
theorem undRef : (Tryz.prog.underlying 83).map (fun d => match d with | .struct _ => true | _ => false) = some true := by kernel_rfl
theorem undRef2 : ∃ fs, Tryz.prog.underlying 83 = some (.struct fs) := by
 cases hq : Tryz.prog.underlying 83 with
 | none => have := undRef; rw [hq] at this; cases this
 | some d =>
  have := undRef
  rw [hq] at this
  cases d <;> first | exact ⟨_, rfl⟩ | (simp at this)
theorem ret_ref {fn : Func} {p t : Tmp} (hfn : fn.results = #[.cell p 83, .tmp t]) {w : World} {cs : Array Value} {g : Nat} {ty : TypeId} (hg : w.heap[g]? = some (.cells cs ty (0, 0))) (hcs : cs.size = 4) {tmps : Array Value} {df : _} (hdf : df = []) (hp : tmps.getD p undef = .pointer (some ⟨g, 0, none⟩)) {post : Ending → World → Prop}
  (h : post (.returned (.tuple #[.agg cs, tmps.getD t undef])) w) : bodyPost Tryz.prog fn post Exit.ret { tmps := tmps, defers := df } w := by
 have hp' : tmps[p]?.getD undef = .pointer (some ⟨g, 0, none⟩) := by simpa using hp
 obtain ⟨fs, hd⟩ := undRef2
 have hl := run_loadVar_row (P := Tryz.prog) w g ty 83 cs (0, 0) (.struct fs) hg hd rfl (by rw [hcs]; exact infoRef)
 exact bodyPost_ret (by simp [results, hfn, hp', asAddr, hl]) hdf h
def ReadP (s : List UInt8) (at_ : Nat) (w : World) (e : Ending) (w' : World) : Prop := Below w.heap.size w w' ∧ match Lb.readM (s.drop (at_ + 2)) with
 | some x => e = .returned (.tuple #[.agg #[.int .i64 (at_ : Int), .int .i64 ((at_ + 2 + x.2.2 : Nat) : Int), .string ⟨x.1.toArray⟩, .string ⟨x.2.1.toArray⟩], .bool true])
 | none => ∃ (i : Int) (a b : List UInt8), e = .returned (.tuple #[.agg #[.int .i64 (at_ : Int), .int .i64 i, .string ⟨a.toArray⟩, .string ⟨b.toArray⟩], .bool false])
set_option maxHeartbeats 8000000 in
set_option maxRecDepth 1000000 in
theorem read_any (s : List UInt8) (at_ : Nat) (w : World) (hk : Kinds w) (hl : at_ + 2 ≤ s.length) (hs : s.length ≤ 1000000) :
  Calls Tryz.prog 62 #[.string ⟨s.toArray⟩, .int .i64 (at_ : Int)] w (ReadP s at_ w) := by
 have HN := Lib.hid fun (q : List UInt8) (hq : q.length ≤ 1000000) W hW => lname_any q W hW (by omega)
 have HP := Lib.hid fun (q : List UInt8) (c : UInt8) W => hp_any q c W
 have HK := Lib.hid hk
 obtain ⟨i, hi⟩ : ∃ i, at_ + 2 = i := ⟨_, rfl⟩
 obtain ⟨q, hq⟩ : ∃ q, s.drop i = q := ⟨_, rfl⟩
 have hql : q.length = s.length - i := by rw [← hq, List.length_drop]
 have hqn := nlen_le q
 obtain ⟨n, hn⟩ : ∃ n, nlen q = n := ⟨_, rfl⟩
 rw [hn] at hqn
 obtain ⟨j, hj⟩ : ∃ j, i + n = j := ⟨_, rfl⟩
 have x1 : (ByteArray.mk s.toArray).extract i s.length = ⟨q.toArray⟩ := by rw [ext_drop, hq]
 have x2 : (ByteArray.mk s.toArray).extract i j = ⟨(q.take n).toArray⟩ := by rw [Asc.extract_seg]; unfold Asc.seg; rw [hq, ← hj, Nat.add_sub_cancel_left]
 have x3 : (ByteArray.mk s.toArray).extract j s.length = ⟨(q.drop n).toArray⟩ := by rw [ext_drop, ← hq, List.drop_drop, hj]
 have HX4 : Hid ((ByteArray.mk s.toArray).extract (j + 1) s.length = ⟨(q.drop (n + 1)).toArray⟩) := Lib.hid (by rw [ext_drop, ← hq, List.drop_drop, ← hj, Nat.add_assoc])
 have HX5 : Hid (∀ k, (ByteArray.mk s.toArray).extract (j + 1) (j + 1 + k) = ⟨((q.drop (n + 1)).take k).toArray⟩) := Lib.hid (fun k => by rw [Asc.extract_seg]; unfold Asc.seg; rw [Nat.add_sub_cancel_left, ← hq, List.drop_drop, ← hj, Nat.add_assoc])
 have HX6 : Hid (∀ k, (ByteArray.mk s.toArray).extract (j + (1 + k)) s.length = ⟨(q.drop (n + 1 + k)).toArray⟩) := Lib.hid (fun k => by rw [ext_drop, ← hq, List.drop_drop, ← hj]; congr 3; omega)
 have hw1 : IntKind.i64.wrap ((at_ : Int) + 2) = (i : Int) := by rw [IntWalk.i64_in _ (by omega)]; omega
 have hw2 : IntKind.i64.wrap ((i : Int) + (n : Int)) = (j : Int) := by rw [IntWalk.i64_in _ (by omega)]; omega
 have HR : Hid (∀ e w', Below w.heap.size w w' → (match Lb.readM q with
  | some x => e = .returned (.tuple #[.agg #[.int .i64 (at_ : Int), .int .i64 ((i + x.2.2 : Nat) : Int), .string ⟨x.1.toArray⟩, .string ⟨x.2.1.toArray⟩], .bool true])
  | none => ∃ (i : Int) (a b : List UInt8), e = .returned (.tuple #[.agg #[.int .i64 (at_ : Int), .int .i64 i, .string ⟨a.toArray⟩, .string ⟨b.toArray⟩], .bool false])) → ReadP s at_ w e w') := Lib.hid (fun e w' hb h => ⟨hb, by rw [hi, hq]; exact h⟩)
 have HM : Hid (Lb.readM q = if n = 0 then none
  else if (q.drop n).head? = some 58 then
   if nlen (q.drop (n + 1)) = 0 then none
   else if (q.drop (n + 1 + nlen (q.drop (n + 1)))).head? = some 125 then some (q.take n, (q.drop (n + 1)).take (nlen (q.drop (n + 1))), n + 1 + nlen (q.drop (n + 1)) + 1) else none
  else if (q.drop n).head? = some 125 then some (q.take n, [], n + 1) else none) := Lib.hid (by unfold Lb.readM; rw [hn])
 have HN1 : Hid (∀ W, Kinds W → Calls Tryz.prog 46 #[.string ⟨q.toArray⟩] W fun e w' => e = .returned (.int .i64 (n : Int)) ∧ W = w') := Lib.hid (fun W hW => by rw [← hn]; exact HN.out q (by omega) W hW)
 have HJE : Hid (i + n = j ∧ q.length = s.length - i) := Lib.hid ⟨hj, hql⟩
 have hij : i ≤ j := by omega
 have hil : i ≤ s.length := by omega
 have hjl : j ≤ s.length := by omega
 clear hk hi hq hn hj hl
 have HKA := Lib.hid fun o1 o2 => (HK.out.alloc o1).alloc o2
 have HBA := Lib.hid fun o1 o2 => (alb w o1).trans ((alb (w.alloc o1) o2).mono (alb w o1).size)
 go_enter Tryz.func62, Tryz.ntmps62
 go_wp2_with fail
 refine (HN1.out _ (HKA.out _ _)).mono ?_
 rintro e w2 ⟨rfl, rfl⟩
 by_cases hn0 : n = 0
 ·have z1 : decide ((0 : Int) < (n : Int)) = false := decide_eq_false (by omega)
  have y1 : decide (0 < n) = false := decide_eq_false (by omega)
  have z2 : ((n : Int) == 0) = true := by rw [beq_iff_eq]; omega
  have HMn := Lib.hid (HM.out.trans (if_pos hn0))
  clear hn0
  go_wp2_with fail
  exact ret_ref rfl (two_first _ _ _ _ _) rfl rfl rfl (HR.out _ _ (HBA.out _ _) (by rw [HMn.out]; exact ⟨_, _, _, rfl⟩))
 ·have z1 : decide ((0 : Int) < (n : Int)) = true := decide_eq_true (by omega)
  have y1 : decide (0 < n) = true := decide_eq_true (by omega)
  have z2 : ((n : Int) == 0) = false := by rw [beq_eq_false_iff_ne]; omega
  have HM1 := Lib.hid (HM.out.trans (if_neg hn0))
  clear hn0
  go_wp2_with fail
  refine (HP.out (q.drop n) 58 _).mono ?_
  rintro e w2 ⟨rfl, rfl⟩
  by_cases hc : (q.drop n).head? = some 58
  ·rw [decide_eq_true hc]
   have HM2 := Lib.hid (HM1.out.trans (if_pos hc))
   have hjl2 : j + 1 ≤ s.length := by
    have : 0 < (q.drop n).length := by cases hq : q.drop n with | nil => rw [hq] at hc; cases hc | cons a b => simp
    rw [List.length_drop] at this
    have := HJE.out
    omega
   have x4 := HX4.out
   have hq4 : (q.drop (n + 1)).length = s.length - (j + 1) := by rw [List.length_drop]; have := HJE.out; omega
   have hkn := nlen_le (q.drop (n + 1))
   have HN2 := Lib.hid fun W hW => HN.out (q.drop (n + 1)) (by omega) W hW
   obtain ⟨k, hk⟩ : ∃ k, nlen (q.drop (n + 1)) = k := ⟨_, rfl⟩
   rw [hk] at HM2 HN2 hkn
   have hw3 : IntKind.i64.wrap ((j : Int) + 1) = ((j + 1 : Nat) : Int) := by rw [IntWalk.i64_in _ (by omega)]; omega
   obtain ⟨j1, hj1⟩ : ∃ j1, j + 1 = j1 := ⟨_, rfl⟩
   rw [hj1] at hw3 x4 hjl2 hq4
   clear hc hk
   go_wp2_with fail
   refine (HN2.out _ (HKA.out _ _)).mono ?_
   rintro e w2 ⟨rfl, rfl⟩
   by_cases hk0 : k = 0
   ·have z3 : ((k : Int) == 0) = true := by rw [beq_iff_eq]; omega
    have HM3 := Lib.hid (HM2.out.trans (if_pos hk0))
    clear hk0
    go_wp2_with fail
    exact ret_ref rfl (two_first _ _ _ _ _) rfl rfl rfl (HR.out _ _ (HBA.out _ _) (by rw [HM3.out]; exact ⟨_, _, _, rfl⟩))
   ·have z3 : ((k : Int) == 0) = false := by rw [beq_eq_false_iff_ne]; omega
    have HM3 := Lib.hid (HM2.out.trans (if_neg hk0))
    have x5 := HX5.out k
    rw [hj1] at x5
    have x6 := HX6.out k
    have hw4 : IntKind.i64.wrap ((j1 : Int) + (k : Int)) = ((j1 + k : Nat) : Int) := by rw [IntWalk.i64_in _ (by omega)]; omega
    have hw5 : IntKind.i64.wrap (1 + (k : Int)) = ((1 + k : Nat) : Int) := by rw [IntWalk.i64_in _ (by omega)]; omega
    obtain ⟨k1, hk1⟩ : ∃ k1, 1 + k = k1 := ⟨_, rfl⟩
    rw [hk1] at hw5 x6
    have hw6 : IntKind.i64.wrap ((j : Int) + (k1 : Int)) = ((j + k1 : Nat) : Int) := by rw [IntWalk.i64_in _ (by omega)]; omega
    obtain ⟨j3, hj3⟩ : ∃ j3, j1 + k = j3 := ⟨_, rfl⟩
    rw [hj3] at hw4 x5
    obtain ⟨j2, hj2⟩ : ∃ j2, j + k1 = j2 := ⟨_, rfl⟩
    rw [hj2] at hw6 x6
    have b1 : j1 ≤ j3 := by omega
    have b2 : j3 ≤ s.length := by omega
    have b3 : j2 ≤ s.length := by omega
    clear hk0
    go_wp2_with fail
    refine (HP.out (q.drop (n + 1 + k)) 125 _).mono ?_
    rintro e w2 ⟨rfl, rfl⟩
    by_cases hd : (q.drop (n + 1 + k)).head? = some 125
    ·rw [decide_eq_true hd]
     have HM4 := Lib.hid (HM3.out.trans (if_pos hd))
     have hw7 : IntKind.i64.wrap ((j2 : Int) + 1) = ((i + (n + 1 + k + 1) : Nat) : Int) := by rw [IntWalk.i64_in _ (by omega)]; have := HJE.out; omega
     obtain ⟨J, hJ⟩ : ∃ J, i + (n + 1 + k + 1) = J := ⟨_, rfl⟩
     have HJ := Lib.hid hJ
     rw [hJ] at hw7
     clear hd hJ
     go_wp2_with fail
     exact ret_ref rfl (two_first _ _ _ _ _) rfl rfl rfl (HR.out _ _ (HBA.out _ _) (by rw [HM4.out]; simp only [HJ.out]; rfl))
    ·rw [decide_eq_false hd]
     have HM4 := Lib.hid (HM3.out.trans (if_neg hd))
     clear hd
     go_wp2_with fail
     exact ret_ref rfl (two_first _ _ _ _ _) rfl rfl rfl (HR.out _ _ (HBA.out _ _) (by rw [HM4.out]; exact ⟨_, _, _, rfl⟩))
  ·rw [decide_eq_false hc]
   have HM2 := Lib.hid (HM1.out.trans (if_neg hc))
   clear hc
   go_wp2_with fail
   refine (HP.out (q.drop n) 125 _).mono ?_
   rintro e w2 ⟨rfl, rfl⟩
   by_cases hd : (q.drop n).head? = some 125
   ·rw [decide_eq_true hd]
    have HM4 := Lib.hid (HM2.out.trans (if_pos hd))
    have hw7 : IntKind.i64.wrap ((j : Int) + 1) = ((i + (n + 1) : Nat) : Int) := by rw [IntWalk.i64_in _ (by omega)]; have := HJE.out; omega
    obtain ⟨J, hJ⟩ : ∃ J, i + (n + 1) = J := ⟨_, rfl⟩
    have HJ := Lib.hid hJ
    rw [hJ] at hw7
    clear hd hJ
    go_wp2_with fail
    exact ret_ref rfl (two_first _ _ _ _ _) rfl rfl rfl (HR.out _ _ (HBA.out _ _) (by rw [HM4.out]; simp only [HJ.out]; rfl))
   ·rw [decide_eq_false hd]
    have HM4 := Lib.hid (HM2.out.trans (if_neg hd))
    clear hd
    go_wp2_with fail
    exact ret_ref rfl (two_first _ _ _ _ _) rfl rfl rfl (HR.out _ _ (HBA.out _ _) (by rw [HM4.out]; exact ⟨_, _, _, rfl⟩))
end Go.Proofs.YtgcpinnnfoanjaaGreatDoor
namespace Go.Proofs.YtgcpinnnfoanjaaGreatDoor
open Go.RowKit
def ML (w : World) : Prop := 1 < w.heap.size ∧ ∃ m : Int, w.cell? ⟨1, 0, none⟩ = some (.int .i64 m)
theorem ML.below {w w' : World} (h : ML w) (hb : Below w.heap.size w w') : ML w' := by
 obtain ⟨h1, m, h2⟩ := h
 exact ⟨Nat.lt_of_lt_of_le h1 hb.size, m, (hb.cell (p := ⟨1, 0, none⟩) h1).trans h2⟩
def KM (w : World) : Prop := Kinds w ∧ ML w
theorem KM.below {w w' : World} (h : KM w) (hb : Below w.heap.size w w') : KM w' := ⟨h.1.below hb, h.2.below hb⟩
theorem idx_any (l : List UInt8) (w : World) (h : ML w) (hl : l.length ≤ 1000000) : Calls Tryz.prog 61 #[.string ⟨l.toArray⟩, .string ⟨#[37, 123]⟩] w fun e w' => e = .returned (.int .i64 (match Lb.cutPM l with
  | none => -1
  | some x => (x.1.length : Int))) ∧ w = w' := by
 obtain ⟨_, m, hm⟩ := h
 refine (Tryz.strings_Index ⟨l.toArray⟩ ⟨#[37, 123]⟩ m w (by rw [ba_size]; omega) hm).mono fun e w' ⟨h1, h2⟩ => ⟨?_, h2.symm⟩
 rw [h1]
 exact congrArg (fun x => Ending.returned (.int .i64 x)) (Lb.index_cut l)
namespace Lb
theorem readM_le {q nm fd : List UInt8} {k : Nat} (h : readM q = some (nm, fd, k)) : k ≤ q.length := by
 have key : ∀ m, (q.drop m).head? = some 125 → m + 1 ≤ q.length := by
  intro m hm
  have : 0 < (q.drop m).length := by cases hq : q.drop m with | nil => rw [hq] at hm; cases hm | cons a b => simp
  rw [List.length_drop] at this
  omega
 unfold readM at h
 repeat' split at h
 all_goals first
  | (cases h; done)
  | (cases h; exact key _ (by assumption))
theorem cutPM_len {l p q : List UInt8} (h : cutPM l = some (p, q)) : p.length + 2 + q.length = l.length ∧ l.drop (p.length + 2) = q := by
 obtain ⟨h1, _⟩ := cutPM_parts h
 rw [h1]
 refine ⟨by simp; omega, ?_⟩
 rw [List.drop_append, List.drop_eq_nil_of_le (by omega), List.nil_append, show p.length + 2 - p.length = 2 by omega]
 rfl
end Lb
def RfR (r : Lb.Ref) (us : List Value) : Prop := us = [.int .i64 (r.fr : Int), .int .i64 (r.to : Int), .string ⟨r.nm.toArray⟩, .string ⟨r.fd.toArray⟩]
theorem infoRf : (Tryz.prog.info? 83).map (fun i => (i.zero, i.size, i.bytes)) = some (some (.agg #[.int .i64 0, .int .i64 0, .string ⟨#[]⟩, .string ⟨#[]⟩]), 4, 48) := by kernel_rfl
def RefsP (s : List UInt8) (w : World) (e : Ending) (w' : World) : Prop := Below w.heap.size w w' ∧ match Lb.refsM s with
 | none => e = .returned (.tuple #[.slice none 0 0, .int .i64 1])
 | some L => ∃ v, e = .returned (.tuple #[v, .int .i64 0]) ∧ OR w.heap.size 83 4 RfR w' L v
set_option maxHeartbeats 8000000 in
set_option maxRecDepth 1000000 in
theorem refs_any (s : List UInt8) (w : World) (hk : KM w) (hs : s.length ≤ 900000) :
  Calls Tryz.prog 37 #[.string ⟨s.toArray⟩] w (RefsP s w) := by
 have HK := Lib.hid hk
 have HBAD : Hid (Lb.refsM s = none → ∀ w', Below w.heap.size w w' → RefsP s w (.returned (.tuple #[.slice none 0 0, .int .i64 1])) w') := Lib.hid (fun h w' hb => ⟨hb, by rw [h]⟩)
 have HOK : Hid (∀ L v w', Lb.refsM s = some L → Below w.heap.size w w' → OR w.heap.size 83 4 RfR w' L v → RefsP s w (.returned (.tuple #[v, .int .i64 0])) w') := Lib.hid (fun L v w' h hb ho => ⟨hb, by rw [h]; exact ⟨v, rfl, ho⟩⟩)
 clear hk
 go_enter Tryz.func37, Tryz.ntmps37
 go_wp2_with fail
 go_loopw [4, 5] (fun l i wr => ∃ (k n : Nat) (rs : List Lb.Ref) (v : Value), v = l ∧ i = .int .i64 k ∧ k ≤ s.length ∧ s.length < k + n ∧ Hid (Lb.refsM s = (Lb.rfs s n k).map (rs ++ ·)) ∧ rs.length ≤ k ∧ Hid (OR w.heap.size 83 4 RfR wr rs v) ∧ Hid (Below w.heap.size w wr)) (fun _ i _ => s.length + 1 - (intOf i).toNat)
 case atStart => exact ⟨0, s.length + 1, [], _, rfl, rfl, by omega, by omega, Lib.hid (by simp [Lb.refsM]), by simp, Lib.hid OR.nil, Lib.hid (Below.refl _ _)⟩
 case round =>
  obtain ⟨k, n, rs, v, rfl, rfl, hk, hn, HR, hrl, HO, HB⟩ := hrel
  obtain ⟨n, rfl⟩ : ∃ m, n = m + 1 := ⟨n - 1, by omega⟩
  have x1 : (ByteArray.mk s.toArray).extract k s.length = ⟨(s.drop k).toArray⟩ := ext_drop s k
  have HI := Lib.hid (idx_any (s.drop k) wr ((HK.out.2).below HB.out) (by rw [List.length_drop]; omega))
  have HST : Hid (Lb.rfs s (n + 1) k = match Lb.cutPM (s.drop k) with
   | none => some []
   | some (p, q) => match Lb.readM q with
    | none => none
    | some (nm, fd, kk) => (Lb.rfs s n (k + p.length + 2 + kk)).map (⟨k + p.length, k + p.length + 2 + kk, nm, fd⟩ :: ·)) := Lib.hid (by first | (rw [Lb.rfs]; done) | (rw [Lb.rfs]; rfl))
  have hdl : (s.drop k).length = s.length - k := List.length_drop
  cases hc : Lb.cutPM (s.drop k) with
  | none =>
   rw [hc] at HI HST
   dsimp only at HI HST
   have HE : Hid (Lb.refsM s = some rs) := Lib.hid (by rw [HR.out, HST.out]; simp)
   clear hc
   go_wp2_with fail
   refine HI.out.mono ?_
   rintro e w2 ⟨rfl, rfl⟩
   go_wp2_with fail
   go_ret2
   exact HOK.out rs _ _ HE.out HB.out HO.out
  | some x =>
   obtain ⟨p, q⟩ := x
   obtain ⟨hl1, hl2⟩ := Lb.cutPM_len hc
   rw [hc] at HI HST
   dsimp only at HI HST
   rw [List.drop_drop] at hl2
   have hkp : k + p.length + 2 ≤ s.length := by omega
   have HRD := Lib.hid (read_any s (k + p.length) wr (HK.out.1.below HB.out) hkp (by omega))
   have HQ : Hid (s.drop (k + p.length + 2) = q) := Lib.hid (by rw [Nat.add_assoc]; exact hl2)
   have z1 : decide ((p.length : Int) < 0) = false := decide_eq_false (by omega)
   have hw1 : IntKind.i64.wrap ((k : Int) + (p.length : Int)) = ((k + p.length : Nat) : Int) := by rw [IntWalk.i64_in _ (by omega)]; omega
   obtain ⟨i, hi⟩ : ∃ i, k + p.length = i := ⟨_, rfl⟩
   rw [hi] at HRD HQ HST hw1 hkp
   have hki : k ≤ i := by omega
   clear hc hl1 hl2 hi hdl
   go_wp2_with fail
   refine HI.out.mono ?_
   rintro e w2 ⟨rfl, rfl⟩
   go_wp2_with fail
   refine HRD.out.mono ?_
   rintro e w2 ⟨hb, hm⟩
   have HB2 := Lib.hid (HB.out.trans (hb.mono HB.out.size))
   have HO2 := Lib.hid (HO.out.keep (fun j _ hj => hb.block j hj) (fun _ _ h => h))
   rw [HQ.out] at hm
   cases hr : Lb.readM q with
   | none =>
    rw [hr] at hm HST
    obtain ⟨x, a, b, rfl⟩ := hm
    have HE : Hid (Lb.refsM s = none) := Lib.hid (by rw [HR.out, HST.out]; rfl)
    clear hb hr
    go_wp2_with fail
    go_ret2
    exact HBAD.out HE.out _ (HB2.out.trans ((alb w2 _).mono HB2.out.size))
   | some x =>
    obtain ⟨nm, fd, kk⟩ := x
    rw [hr] at hm HST
    simp only at hm HST
    subst hm
    have hkk := Lb.readM_le hr
    have hql : q.length = s.length - (i + 2) := by rw [← HQ.out, List.length_drop]
    obtain ⟨j, hj⟩ : ∃ j, i + 2 + kk = j := ⟨_, rfl⟩
    rw [hj] at HST ⊢
    have hjl : j ≤ s.length := by omega
    have hij : i + 2 ≤ j := by omega
    have HE : Hid (Lb.refsM s = (Lb.rfs s n j).map ((rs ++ [⟨i, j, nm, fd⟩]) ++ ·)) := Lib.hid (by rw [HR.out, HST.out, Option.map_map]; congr 1; funext x; simp)
    obtain ⟨i0, hi, hz0, hz1, hz2⟩ := info_parts infoRf
    obtain ⟨cs, hown, hpush⟩ := HO2.out.cells
    have hBW : w.heap.size ≤ w2.heap.size := HB2.out.size
    have one2 : ∀ u ∈ [Value.int .i64 (i : Int), .int .i64 (j : Int), .string ⟨nm.toArray⟩, .string ⟨fd.toArray⟩], u.oneCell' = true := by
     intro u hu
     simp only [List.mem_cons, List.not_mem_nil, or_false] at hu
     rcases hu with rfl | rfl | rfl | rfl <;> rfl
    clear hr hkk hql hj hb
    have hne : some w2.heap.size ≠ v.ownBlock := fun e => by have := (hown.lt _ e.symm).2; omega
    have hcell : ((w2.alloc (.cells #[.int .i64 (i : Int), .int .i64 (j : Int), .string ⟨nm.toArray⟩, .string ⟨fd.toArray⟩] 83)).alloc (.cells #[.int .i64 (i : Int), .int .i64 (j : Int), .string ⟨nm.toArray⟩, .string ⟨fd.toArray⟩] 83)).cell? ⟨w2.heap.size, 1, none⟩ = some (.int .i64 (j : Int)) := Lib.cell_of_heap (two_first w2 _ _ _ _) 1
    have hnew : ((w2.alloc (.cells #[.int .i64 (i : Int), .int .i64 (j : Int), .string ⟨nm.toArray⟩, .string ⟨fd.toArray⟩] 83)).alloc (.cells #[.int .i64 (i : Int), .int .i64 (j : Int), .string ⟨nm.toArray⟩, .string ⟨fd.toArray⟩] 83)).heap[w2.heap.size + 1]? = some (.cells #[.int .i64 (i : Int), .int .i64 (j : Int), .string ⟨nm.toArray⟩, .string ⟨fd.toArray⟩] 83) := by have := heap_alloc_new (w2.alloc (.cells #[.int .i64 (i : Int), .int .i64 (j : Int), .string ⟨nm.toArray⟩, .string ⟨fd.toArray⟩] 83)) (.cells #[.int .i64 (i : Int), .int .i64 (j : Int), .string ⟨nm.toArray⟩, .string ⟨fd.toArray⟩] 83); rwa [World.size_alloc] at this
    have HBA := Lib.hid (HB2.out.trans ((alb w2 (.cells #[.int .i64 (i : Int), .int .i64 (j : Int), .string ⟨nm.toArray⟩, .string ⟨fd.toArray⟩] 83)).mono HB2.out.size))
    have hk1 : s.length + 1 - j < s.length + 1 - k := by omega
    go_wp2_with (at_builtin; refine wpList_append_lies _ rfl _ _ 79 rfl w.heap.size 83 i0 (.agg #[.int .i64 0, .int .i64 0, .string ⟨#[]⟩, .string ⟨#[]⟩]) 4 48 Tryz.underlying79 hi hz0 hz1 hz2 rfl (by decide) _ rs.length cs rfl ((hown.alloc _).alloc _) ⟨w2.heap.size + 1, 0, none⟩ 1 1 [.int .i64 (i : Int), .int .i64 (j : Int), .string ⟨nm.toArray⟩, .string ⟨fd.toArray⟩] rfl rfl (World.news_of_block hnew) one2 (by omega) (by unfold maxLen; omega) (by omega) (by simp; omega) _ rfl ?_; intro g6 cap6 w6 hown6 hgr6 hat6 hlt6; have HW6 := Lib.hid (push_below hgr6 (hown.alloc _) (Nat.le_trans hBW (by simp))); have HO6 := Lib.hid (hpush RfR w6 (⟨i, j, nm, fd⟩ : Lb.Ref) [.int .i64 (i : Int), .int .i64 (j : Int), .string ⟨nm.toArray⟩, .string ⟨fd.toArray⟩] _ (fun _ _ h => h) rfl rfl (by omega) hown6); have c6 := (World.cell?_of_block (a := ⟨w2.heap.size, 1, none⟩) (hgr6.block w2.heap.size (by rw [World.size_alloc, World.size_alloc]; omega) hne)).trans hcell; clear hown6 hgr6 hat6 hlt6 hown hpush hcell hnew hne)
    refine ⟨⟨j, n, rs ++ [⟨i, j, nm, fd⟩], _, rfl, rfl, hjl, by omega, HE, by simp; omega, HO6, Lib.hid (HBA.out.trans HW6.out)⟩, by simp [intOf]; omega⟩
end Go.Proofs.YtgcpinnnfoanjaaGreatDoor

/-
 Joined: Laid, LaidLib, LaidLt, Stay, OpenB, LgO, LgP.
-/
import Derived.Test.YtgcpinnnfoanjaaGreatDoorCards
import Derived.Test.YtgcpinnnfoanjaaGreatDoorTie
import Derived.WalkKit
import Derived.ProofKit
import Derived.OpenShut
import Derived.Deep.DeepHandedRow
import Derived.Lib.LaidTab
import Derived.Stop.LaidErr
import Derived.Test.YtgcpinnnfoanjaaGreatDoorRdZa
import Derived.Lib.QuietBelow
import Derived.Lib.AppendIntMem
import Derived.ChangeStays
import Derived.ChangeBears
import Derived.Below
import Derived.ChangeSlices
import Derived.Test.YtgcpinnnfoanjaaGreatDoorRdY
import Derived.Shelf.Vars
namespace Go.Proofs.YtgcpinnnfoanjaaGreatDoor
open Go.ChangeShapes Go.WideShapes Go.ChangeAt Go.RowKit
theorem own : ownKnob Tryz.prog.godebug = none := by kernel_rfl
def litCells : DataW Unit → Array Value
 | .agg l => (l.map fun | .lit (.int k n) => Value.int k n | _ => undef).toArray
 | _ => #[]
def layAt (d : DataW Unit) : Obj → Obj
 | .cells _ t frozen => .cells (litCells d) t frozen
 | o => o
end Go.Proofs.YtgcpinnnfoanjaaGreatDoor
namespace Go.Proofs.YtgcpinnnfoanjaaGreatDoor
open Go.ChangeShapes Go.WideShapes Go.ChangeAt Go.RowKit
theorem gKinds : Tryz.prog.globalNamed "logtide/ascii.kinds" = some 0 := by kernel_rfl
theorem gKindsType : (Tryz.prog.globals[0]?).map (·.type) = some 134 := by kernel_rfl
theorem cellsKinds : Tryz.prog.cellsOf 134 = 256 := by kernel_rfl
theorem cellsU8 : Tryz.prog.cellsOf 5 = 1 := by kernel_rfl
theorem kinds_data : (Rows.laid_logtide_ascii_kinds : DataW Unit) = Lib.tabData .u8 Asc.kTab := by kernel_rfl
theorem kinds_of_head {W : World} {rest : List (String × DataW Unit)} (h : laidMet Tryz.prog (("logtide/ascii.kinds", Rows.laid_logtide_ascii_kinds) :: rest) W) : Kinds W := by
 rw [kinds_data] at h
 have ht : Lib.TabIs Tryz.prog W "logtide/ascii.kinds" .u8 Asc.kTab := Lib.tabIs_of_head (zs := Asc.kTab) (rest := rest) gKinds gKindsType Tryz.underlying134 Tryz.underlying5 cellsU8 cellsKinds h
 have hc : ∀ c, c < 256 → W.cell? ⟨0, c, none⟩ = some (.int .u8 (Asc.kind c : Nat)) := fun c hc => by
  rw [← Asc.kTab_at c hc]
  exact ht.cell gKinds c (by simpa [Asc.kTab] using hc)
 exact ⟨World.block_lt_of_cell? W _ (hc 0 (by omega)), hc⟩
end Go.Proofs.YtgcpinnnfoanjaaGreatDoor
namespace Go.Proofs.YtgcpinnnfoanjaaGreatDoor
open Go.ChangeShapes Go.WideShapes Go.ChangeAt Go.RowKit
def laidThree : List (String × DataW Unit) := [("unicode/utf8.acceptRanges", Rows.laid_unicode_utf8_acceptRanges), ("logtide/ascii.kinds", Rows.laid_logtide_ascii_kinds), ("unicode/utf8.first", Rows.laid_unicode_utf8_first)]
theorem k3_of_laid {W : World} (h : laidMetH Tryz.prog laidThree W) : Kinds W := by
 have h' : laidMet Tryz.prog laidThree W := h
 exact kinds_of_head (rest := [("unicode/utf8.first", Rows.laid_unicode_utf8_first)]) h'.tail
def litCells2 : DataW Unit → Array Value
 | .agg l => (l.map fun | .agg m => (m.map fun | .lit (.int k n) => Value.int k n | _ => undef) | _ => []).flatten.toArray
 | _ => #[]
def layAt2 (d : DataW Unit) : Obj → Obj
 | .cells _ t frozen => .cells (litCells2 d) t frozen
 | o => o
noncomputable def laidWorld3 (os : Os) : World :=
 { World.holding Tryz.prog os ⟨#[], #[], []⟩ with heap := (((World.holding Tryz.prog os ⟨#[], #[], []⟩).heap.modify 0 (layAt Rows.laid_logtide_ascii_kinds)).modify 3 (layAt2 Rows.laid_unicode_utf8_acceptRanges)).modify 2 (layAt Rows.laid_unicode_utf8_first) }
end Go.Proofs.YtgcpinnnfoanjaaGreatDoor
namespace Go.Proofs.YtgcpinnnfoanjaaGreatDoor
open Go.ChangeShapes Go.WideShapes Go.ChangeAt Go.RowKit
theorem stay_laid : laidOutB Tryz.prog = true := by kernel_rfl
theorem stay_maps : mapsRowed Tryz.prog = true := by kernel_rfl
theorem stay_kids : Kids Tryz.prog (· < Tryz.prog.types.size) := kids_rows stay_laid stay_maps
def slicesSized (P : Program) : Bool := (List.range P.types.size).all fun t => match P.underlying t with | some (.slice e) => decide (0 < P.cellsOf e) | _ => true
theorem stay_sized : slicesSized Tryz.prog = true := by kernel_rfl
theorem stay_pos {t e : TypeId} (ht : t < Tryz.prog.types.size) (h : Tryz.prog.underlying t = some (.slice e)) : 0 < Tryz.prog.cellsOf e := by
 have := (List.all_eq_true.1 stay_sized) t (List.mem_range.2 ht)
 rw [h] at this
 simpa using this
theorem trodAll_stays {H : Type} {enc : TypeId × Value → H} {W W' : World} {sp : Nat → Bool} :
  ∀ {ts : List TypeId} {vs : List Value} {ds : List (DataW H)} {ps : List MemPlace}, (∀ t ∈ ts, t < Tryz.prog.types.size) → DataW.TrodAll enc Tryz.prog W 0 (fun _ => true) true ts vs ds ps →
   (∀ p ∈ ps, W.sameAt W' p) → (∀ p ∈ ps, sp p.block = true) → DataW.TrodAll enc Tryz.prog W' 0 sp true ts vs ds ps
 | [], vs, ds, ps, _, h, _, _ => by
  obtain ⟨rfl, rfl, rfl⟩ := trodAll_nil h
  exact rfl
 | t :: ts, vs, ds, ps, ht, h, h1, h2 => by
  obtain ⟨v, vs', d, ds', p, q, rfl, rfl, rfl, ⟨fuel, hf⟩, hr⟩ := trodAll_cons h
  refine ⟨p, q, ⟨fuel, DataW.trod_stays (x := (d, p)) stay_kids stay_pos (fun h => by cases h) (ht t (by simp)) hf (fun x hx => h1 x (List.mem_append_left _ hx)) (fun x hx => h2 x (List.mem_append_left _ hx))⟩, ?_, rfl⟩
  exact trodAll_stays (fun t h => ht t (List.mem_cons_of_mem _ h)) hr (fun x hx => h1 x (List.mem_append_right _ hx)) (fun x hx => h2 x (List.mem_append_right _ hx))
theorem post_true {H : Type} {enc : TypeId × Value → H} {f : Func} {s : ChangeSpec} {W W' : World} {args : Array Value} {ds gs : List (DataW H)} {before : List MemPlace}
  (hW : DataW.Whole enc Tryz.prog f.params.toList s.vars false W args.toList ds gs before) (hvars : s.vars = []) (hT : ∀ t ∈ f.params.toList, t < Tryz.prog.types.size)
  (hrt : f.resultTypes = #[4]) (hres : (s.fn H ds).results = [.lit (.bool true)]) (hargs : (s.fn H ds).args = ds) (hv : (s.fn H ds).vars = []) (hb : Below W.heap.size W W') :
  s.post enc Tryz.prog f false true false false W args (.bool true) W' := by
 have hlt := hW.lt
 have hW0 := hW
 obtain ⟨p, q, hA, hV, rfl, _, _⟩ := hW
 rw [hvars] at hV
 obtain ⟨rfl, rfl⟩ := trodVars_none hV
 rw [List.append_nil] at hlt
 refine ⟨ds, [], p ++ [], [], p, [], hW0, ?_, ?_, ?_, hb.frame _, fun h => by cases h⟩
 ·rw [List.append_nil, hres, hrt]
  exact trodAll_cons_mk (shut_bool Tryz.underlying4 _) trodAll_mk0
 ·rw [List.append_nil, hargs]
  exact trodAll_stays hT hA (fun x hx => hb.same (hlt x hx)) (fun x hx => by simpa using hlt x hx)
 ·rw [List.append_nil, hv, hvars]
  exact rfl
end Go.Proofs.YtgcpinnnfoanjaaGreatDoor
namespace Go.Proofs.YtgcpinnnfoanjaaGreatDoor
open Go.ChangeShapes Go.WideShapes Go.ChangeAt Go.RowKit
open Go.ChangeMaps (open_string shut_string)
theorem cellsU8q : Tryz.prog.cellsOf 5 = 1 := by kernel_rfl
set_option maxRecDepth 1000000 in
theorem open_bytes {H : Type} {enc : TypeId × Value → H} {W : World} {base : Nat} {v : Value} {d : DataW H} {p : List MemPlace} (hv : Value.okWide Tryz.prog W .any base 22 v)
  (h : DataW.Trod enc Tryz.prog W 0 (fun _ => true) true 22 v d p) : ∃ bs, BSI W v bs := by
 obtain ⟨a0, len, cap, rfl⟩ := okWide_slice Tryz.underlying22 hv
 obtain ⟨fuel, hf⟩ := h
 rcases open_ints Tryz.underlying22 Tryz.underlying5 cellsU8q hf with ⟨hcs, hx⟩ | ⟨a, len', cap', zs, hcs, _, hl, hm, hz, hx, hcell, hwz⟩
 ·simp only [Prod.mk.injEq] at hx
  obtain ⟨rfl, rfl⟩ := hx
  simp [Value.cells] at hcs
  obtain ⟨rfl, rfl, rfl⟩ := hcs
  exact ⟨[], .inl ⟨rfl, rfl⟩⟩
 ·simp only [Prod.mk.injEq] at hx
  obtain ⟨rfl, rfl⟩ := hx
  simp [Value.cells] at hcs
  obtain ⟨rfl, rfl, rfl⟩ := hcs
  simp only [if_true] at hz
  have hl2 : (zs.take len).length = len := by rw [List.length_take]; omega
  refine ⟨(zs.take len).map fun z => UInt8.ofNat z.toNat, .inr ⟨a, cap, by rw [List.length_map, hl2], by rw [List.length_map, hl2]; exact hl, fun j u hj => ?_⟩⟩
  ·unfold Lib.byteCells at hj
   rw [List.map_map, List.getElem?_map] at hj
   obtain ⟨z, hz1, rfl⟩ := Option.map_eq_some_iff.1 hj
   have hj1 : j < len := by have := (List.getElem?_eq_some_iff.1 hz1).1; omega
   rw [List.getElem?_take_of_lt hj1] at hz1
   obtain ⟨hj2, hz3⟩ := List.getElem?_eq_some_iff.1 hz1
   have hc := hcell j hj2
   have e : zs.getD j 0 = z := by simp [List.getD, hz1]
   rw [e] at hc
   obtain ⟨n, hn, rfl⟩ := u8_nat (hwz z (by rw [← hz3]; exact List.getElem_mem hj2))
   rw [hc]
   simp only [Function.comp_apply, Int.toNat_natCast]
   rw [Asc.ofNat_toNat8 hn]
end Go.Proofs.YtgcpinnnfoanjaaGreatDoor
namespace Go.Proofs.YtgcpinnnfoanjaaGreatDoor
open Go.ChangeShapes Go.WideShapes Go.ChangeAt Go.RowKit
open Go.ChangeMaps (open_string)
theorem ml_of_shaped {W : World} (h : W.ShapedOpen Tryz.prog) : ML W := by
 obtain ⟨m, hm⟩ := Go.Proofs.cell_of_shapedOpen_int (P := Tryz.prog) (w := W) (g := 1) (zero := #[.int .i64 0]) (t := 3) h (of_decide_eq_true (by kernel_rfl)) (by kernel_rfl) rfl (by kernel_rfl) (by kernel_rfl) Tryz.underlying3
 exact ⟨World.block_lt_of_cell? W _ hm, m, hm⟩
set_option maxRecDepth 1000000 in
theorem reads_law {H : Type} {enc : TypeId × Value → H} {W : World} {base : Nat} {args : Array Value} {ds : List (DataW H)} {p : List MemPlace}
  (hval : ∀ (j : Nat) t v, (#[9, 22] : Array TypeId)[j]? = some t → args[j]? = some v → Value.okWide Tryz.prog W .any base t v)
  (hA : DataW.TrodAll enc Tryz.prog W 0 (fun _ => true) true [9, 22] args.toList ds p) {X : List TypeId} (hbound : (DataW.weightsEach Tryz.prog ((#[9, 22] : Array TypeId).toList ++ X) ds).all (· ≤ reachBytes) = true) (hL : laidMetH Tryz.prog laidThree W) (hS : W.ShapedOpen Tryz.prog) :
  Calls Tryz.prog 4 args W fun e w' => e = .returned (.bool true) ∧ Below W.heap.size W w' := by
 obtain ⟨v0, vs0, d0, ds0, p0, q0, hargs, rfl, rfl, h0, r0⟩ := trodAll_cons hA
 obtain ⟨v1, vs1, d1, ds1, p1, q1, rfl, rfl, rfl, h1, r1⟩ := trodAll_cons r0
 obtain ⟨rfl, rfl, rfl⟩ := trodAll_nil r1
 obtain rfl : args = #[v0, v1] := by cases args; simp_all
 obtain ⟨s, rfl, rfl, rfl, ws⟩ := open_string Tryz.underlying9 (hval 0 9 v0 rfl rfl) h0
 obtain ⟨bs, hbs⟩ := open_bytes (hval 1 22 v1 rfl rfl) h1
 obtain ⟨l, rfl⟩ : ∃ l : List UInt8, s = ⟨l.toArray⟩ := ⟨s.data.toList, by simp⟩
 have hl : l.length ≤ 140737488351232 := by
  have h1 := sized_string hbound (j := 0) (t := 9) rfl rfl
  have h2 : reachBytes = 140737488351232 := by decide
  have e : (ByteArray.mk l.toArray).data.toList.length = l.length := by simp
  omega
 exact reads_any l bs v1 W ⟨k3_of_laid hL, ml_of_shaped hS⟩ hbs.bs hl
end Go.Proofs.YtgcpinnnfoanjaaGreatDoor
namespace Go.Proofs.YtgcpinnnfoanjaaGreatDoor
open Go.ChangeShapes Go.WideShapes Go.ChangeAt Go.RowKit
namespace ReadsRow
set_option maxRecDepth 1000000 in
theorem contract (H : Type) (enc : TypeId × Value → H) (W : World) (base : Nat) (args : Array Value) (ds gs : List (DataW H)) (before : List MemPlace)
  (hval : ∀ (j : Nat) t v, Tryz.f4.params[j]? = some t → args[j]? = some v → Value.okWide Tryz.prog W .any base t v)
  (hW : DataW.Whole enc Tryz.prog Tryz.f4.params.toList Rows.libraryReadsSpec.vars false W args.toList ds gs before)
  (hbound : (DataW.weightsEach Tryz.prog (Tryz.f4.params.toList ++ (OpenSpec.ofChange Rows.libraryReadsSpec).bare.plain.varTypes Tryz.prog) (ds ++ gs)).all (· ≤ reachBytes) = true)
  (hL : laidMetH Tryz.prog Rows.libraryReadsRow.laid W) (hS : W.ShapedOpen Tryz.prog) :
  Calls Tryz.prog 4 args W fun e W' => ∃ v, e = .returned v ∧ Rows.libraryReadsSpec.post enc Tryz.prog Tryz.f4 false true false false W args v W' := by
 have hW' := hW
 obtain ⟨p, q, hA, hV, rfl, _, _⟩ := hW
 obtain ⟨rfl, rfl⟩ := trodVars_none hV
 rw [List.append_nil] at hbound
 rw [Tryz.params4] at hA hval hbound
 refine (reads_law hval hA hbound hL hS).mono fun e W' ⟨he, hb⟩ => ?_
 subst he
 refine ⟨_, rfl, post_true hW' rfl ?_ rfl ?_ ?_ ?_ hb⟩
 ·rw [Tryz.params4]
  intro t ht
  simp only [List.mem_cons, List.not_mem_nil, or_false] at ht
  have hs : decide (9 < Tryz.prog.types.size) = true ∧ decide (22 < Tryz.prog.types.size) = true := ⟨by kernel_rfl, by kernel_rfl⟩
  obtain ⟨s0, s1⟩ := hs
  rcases ht with rfl | rfl
  ·exact of_decide_eq_true s0
  ·exact of_decide_eq_true s1
 all_goals
  obtain ⟨v0, vs0, d0, ds0, p0, q0, hargs, rfl, rfl, h0, r0⟩ := trodAll_cons hA
  obtain ⟨v1, vs1, d1, ds1, p1, q1, _, rfl, rfl, h1, r1⟩ := trodAll_cons r0
  obtain ⟨_, rfl, rfl⟩ := trodAll_nil r1
  rfl
theorem laid_met (os : Os) : laidMet Tryz.prog Rows.libraryReadsRow.laid ((laidWorld3 os).forCall (fun _ _ => 0) ⟨#[], #[.string ⟨#[]⟩, .slice none 0 0], []⟩).memory :=
 laidMet_of_run' 8 (by kernel_rfl) (by kernel_rfl)
theorem reads (os : Os) {H : Type} (enc : TypeId × Value → H) : ∃ places, DataW.whole enc Tryz.prog ((laidWorld3 os).forCall (fun _ _ => 0) ⟨#[], #[.string ⟨#[]⟩, .slice none 0 0], []⟩).memory Tryz.f4.params.toList Rows.libraryReadsSpec.vars false (#[.string ⟨#[]⟩, .slice none 0 0] : Array Value).toList 8 = some ([.lit (.string []), .nil], [], places) :=
 ⟨[], by kernel_rfl⟩
set_option maxRecDepth 100000 in
theorem lifted (os : Os) (started : os.Started) (H : Type) (enc : TypeId × Value → H) (F : Stop.Interp) :
  ReturnsInHanded {} Tryz.checked os 4 .any ((OpenSpec.ofChange Rows.libraryReadsSpec).preRow enc Tryz.prog Tryz.f4 Rows.libraryReadsRow.domain false Rows.libraryReadsRow.laid) (((OpenSpec.ofChange Rows.libraryReadsSpec).at F).post enc Tryz.prog Tryz.f4 false true false false) := by
 obtain ⟨places, hx⟩ := reads os enc
 refine returnsInHanded_of_row (C := Tryz.checked) (s := (OpenSpec.ofChange Rows.libraryReadsSpec)) own started (by kernel_rfl) Tryz.func4
  (witness_row_at (enc := enc) (C := Tryz.checked) false (laidWorld3 os) #[.string ⟨#[]⟩, .slice none 0 0] rfl (by kernel_rfl) (by kernel_rfl) (by kernel_rfl)
   (OpenSpec.preRow_of_cond 8 hx (by kernel_rfl) (fun k hk => by cases hk) (by kernel_rfl) (laid_met os))) ?_
 intro W base args ds gs before hval hW _ _ hsz hL hS _
 exact contract H enc W base args ds gs before hval hW hsz hL hS
theorem said : Rows.LibraryReadsSaid :=
 OpenClaim.holds_of_cond 4 Tryz.f4 rfl rfl rfl rfl rfl rfl rfl ⟨rfl, rfl, rfl, rfl, rfl⟩ rfl rfl rfl rfl rfl (by kernel_rfl) Tryz.func4 (by kernel_rfl)
  (of_decide_eq_true (by kernel_rfl)) (by unfold Func.isWrapper; first | (rw [if_pos (by decide +kernel)]; kernel_rfl) | (rw [if_neg (by decide +kernel)]; exact ⟨rfl, rfl⟩))
  (fun os started H enc _ F => by rw [OpenClaim.pre_eq_preRow]; exact lifted os started H enc F)
theorem plain (f : FuncId) (fn : Func) (hf : Tryz.pinned.checked.prog.funcNamed "logtide/logtidelaw04.LibraryReads" = some f) (hfn : Tryz.pinned.checked.prog.funcs[f]? = some fn) :
  false = Tryz.pinned.checked.prog.looks [] ∧ ∀ (j : Nat) t, fn.params[j]? = some t → Tryz.pinned.checked.prog.wantsStandIn t = false := by
 obtain rfl : f = 4 := Option.some.inj ((show Tryz.prog.funcNamed "logtide/logtidelaw04.LibraryReads" = some 4 by kernel_rfl).symm.trans hf) |>.symm
 obtain rfl : fn = Tryz.f4 := (Option.some.inj (Tryz.func4.symm.trans hfn)).symm
 refine ⟨by kernel_rfl, fun j t ht => ?_⟩
 rw [Tryz.params4] at ht
 have hm := Array.mem_of_getElem? ht
 simp only [List.mem_toArray, List.mem_cons, List.not_mem_nil, or_false] at hm
 rcases hm with rfl | rfl
 ·exact (show Tryz.prog.wantsStandIn 9 = false by kernel_rfl)
 ·exact (show Tryz.prog.wantsStandIn 22 = false by kernel_rfl)
end ReadsRow
theorem reads_card : Rows.LibraryReadsCardSaid :=
 Claim7.holds_tied_plain_at .later [] _ _ _ _ ReadsRow.said (fun _ h => by cases h) (by kernel_rfl) (fun _ h => by cases h) libraryReads_row_tie rfl ⟨rfl, rfl⟩ (by kernel_rfl) rfl ReadsRow.plain (by kernel_rfl)
#print axioms reads_card
end Go.Proofs.YtgcpinnnfoanjaaGreatDoor

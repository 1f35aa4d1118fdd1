/-
  Joined: Laid, LaidPat, Stay, OpenB, PrA, PrB, PrC, JoinsP.
-/
import Derived.Test.YtpbdcghiabhliaaDoorCards
import Derived.Test.YtpbdcghiabhliaaDoorTie
import Derived.WalkKit
import Derived.ProofKit
import Derived.OpenShut
import Derived.Deep.DeepHandedRow
import Derived.Lib.LaidTab
import Derived.Stop.LaidErr
import Derived.Test.YtpbdcghiabhliaaDoorKinds
import Derived.Lib.QuietBelow
import Derived.Lib.AppendIntMem
import Derived.ChangeStays
import Derived.ChangeBears
import Derived.Below
import Derived.Test.YtpbdcghiabhliaaDoorMem
import Derived.ChangeSlices
import Derived.Test.YtpbdcghiabhliaaDoorRvE
/-
  What a row's list of variables gives: the tables' cells; and a world that fits it.
-/
namespace Go.Proofs.YtpbdcghiabhliaaDoor
open Go.ChangeShapes Go.WideShapes Go.ChangeAt Go.RowKit

theorem own : ownKnob Tryd.prog.godebug = none := by kernel_rfl

/-- A listed table of integers as cells: for the witness. -/
def litCells : DataW Unit → Array Value
  | .agg l => (l.map fun | .lit (.int k n) => Value.int k n | _ => undef).toArray
  | _ => #[]
def layAt (d : DataW Unit) : Obj → Obj
  | .cells _ t frozen => .cells (litCells d) t frozen
  | o => o

end Go.Proofs.YtpbdcghiabhliaaDoor
/-
  The tables that chapter 2's laws read, out of a row's list.
-/
namespace Go.Proofs.YtpbdcghiabhliaaDoor
open Go.ChangeShapes Go.WideShapes Go.ChangeAt Go.RowKit

theorem gKinds : Tryd.prog.globalNamed "logtide/ascii.kinds" = some 0 := by kernel_rfl
theorem gPow : Tryd.prog.globalNamed "internal/strconv.uint64pow10" = some 2 := by kernel_rfl
theorem gKindsType : (Tryd.prog.globals[0]?).map (·.type) = some 105 := by kernel_rfl
theorem gPowType : (Tryd.prog.globals[2]?).map (·.type) = some 123 := by kernel_rfl
theorem cellsKinds : Tryd.prog.cellsOf 105 = 256 := by kernel_rfl
theorem cellsPow : Tryd.prog.cellsOf 123 = 20 := by kernel_rfl
theorem cellsU8 : Tryd.prog.cellsOf 5 = 1 := by kernel_rfl
theorem cellsU64 : Tryd.prog.cellsOf 116 = 1 := by kernel_rfl
theorem kinds_data : (Rows.laid_logtide_ascii_kinds : DataW Unit) = Lib.tabData .u8 Asc.kTab := by kernel_rfl

theorem kinds_of_head {W : World} {rest : List (String × DataW Unit)} (h : laidMet Tryd.prog (("logtide/ascii.kinds", Rows.laid_logtide_ascii_kinds) :: rest) W) : Kinds W := by
  rw [kinds_data] at h
  have ht : Lib.TabIs Tryd.prog W "logtide/ascii.kinds" .u8 Asc.kTab := Lib.tabIs_of_head (zs := Asc.kTab) (rest := rest) gKinds gKindsType Tryd.underlying105 Tryd.underlying5 cellsU8 cellsKinds h
  have hc : ∀ c, c < 256 → W.cell? ⟨0, c, none⟩ = some (.int .u8 (Asc.kind c : Nat)) := fun c hc => by
    rw [← Asc.kTab_at c hc]
    exact ht.cell gKinds c (by simpa [Asc.kTab] using hc)
  exact ⟨World.block_lt_of_cell? W _ (hc 0 (by omega)), hc⟩

/-- The table of the powers of ten is laid. -/
def Pow (w : World) : Prop := Lib.TabIs Tryd.prog w "internal/strconv.uint64pow10" .u64 Lib.pow10Tab
theorem Pow.below {w w' : World} (h : Pow w) (hb : Below w.heap.size w w') : Pow w' := by
  have hc := Lib.TabIs.cell h gPow 0 (by decide)
  exact var?_below hb gPow (World.block_lt_of_cell? w _ hc) h

def laidOne : List (String × DataW Unit) := [("logtide/ascii.kinds", Rows.laid_logtide_ascii_kinds)]
def laidFour : List (String × DataW Unit) := [("math/bits.deBruijn32tab", Rows.laid_math_bits_deBruijn32tab), ("math/bits.deBruijn64tab", Rows.laid_math_bits_deBruijn64tab), ("internal/strconv.uint64pow10", Rows.laid_internal_strconv_uint64pow10), ("logtide/ascii.kinds", Rows.laid_logtide_ascii_kinds)]

theorem k_of_laid {W : World} (h : laidMetH Tryd.prog laidOne W) : Kinds W := kinds_of_head (rest := []) h
theorem kp_of_laid {W : World} (h : laidMetH Tryd.prog laidFour W) : Kinds W ∧ Pow W := by
  have h' : laidMet Tryd.prog laidFour W := h
  have h3 : laidMet Tryd.prog [("internal/strconv.uint64pow10", Rows.laid_internal_strconv_uint64pow10), ("logtide/ascii.kinds", Rows.laid_logtide_ascii_kinds)] W := h'.tail.tail
  have hp : Pow W := Lib.tabIs_of_head (zs := Lib.pow10Tab) (rest := [("logtide/ascii.kinds", Rows.laid_logtide_ascii_kinds)]) gPow gPowType Tryd.underlying123 Tryd.underlying116 cellsU64 cellsPow h3
  exact ⟨kinds_of_head (rest := []) h3.tail, hp⟩

/-- A WORLD FOR THE WITNESS: the settled one, the tables holding what their initialisers lay. -/
noncomputable def laidWorld (os : Os) : World :=
  { World.holding Tryd.prog os ⟨#[], #[], []⟩ with heap := ((((World.holding Tryd.prog os ⟨#[], #[], []⟩).heap.modify 0 (layAt Rows.laid_logtide_ascii_kinds)).modify 2 (layAt Rows.laid_internal_strconv_uint64pow10)).modify 3 (layAt Rows.laid_math_bits_deBruijn32tab)).modify 4 (layAt Rows.laid_math_bits_deBruijn64tab) }

end Go.Proofs.YtpbdcghiabhliaaDoor
/-
  THE ROW'S LAST STEP, WHATEVER THE ARGUMENTS' TYPES: what a call leaves alone below the heap's old end reads behind it as it read before.
-/
namespace Go.Proofs.YtpbdcghiabhliaaDoor
open Go.ChangeShapes Go.WideShapes Go.ChangeAt Go.RowKit

theorem stay_laid : laidOutB Tryd.prog = true := by kernel_rfl
theorem stay_maps : mapsRowed Tryd.prog = true := by kernel_rfl
theorem stay_kids : Kids Tryd.prog (· < Tryd.prog.types.size) := kids_rows stay_laid stay_maps
def slicesSized (P : Program) : Bool := (List.range P.types.size).all fun t => match P.underlying t with | some (.slice e) => decide (0 < P.cellsOf e) | _ => true
theorem stay_sized : slicesSized Tryd.prog = true := by kernel_rfl
theorem stay_pos {t e : TypeId} (ht : t < Tryd.prog.types.size) (h : Tryd.prog.underlying t = some (.slice e)) : 0 < Tryd.prog.cellsOf e := by
  have := (List.all_eq_true.1 stay_sized) t (List.mem_range.2 ht)
  rw [h] at this
  simpa using this

theorem trodAll_stays {H : Type} {enc : TypeId × Value → H} {W W' : World} {sp : Nat → Bool} :
    ∀ {ts : List TypeId} {vs : List Value} {ds : List (DataW H)} {ps : List MemPlace}, (∀ t ∈ ts, t < Tryd.prog.types.size) → DataW.TrodAll enc Tryd.prog W 0 (fun _ => true) true ts vs ds ps →
      (∀ p ∈ ps, W.sameAt W' p) → (∀ p ∈ ps, sp p.block = true) → DataW.TrodAll enc Tryd.prog W' 0 sp true ts vs ds ps
  | [], vs, ds, ps, _, h, _, _ => by
    obtain ⟨rfl, rfl, rfl⟩ := trodAll_nil h
    exact rfl
  | t :: ts, vs, ds, ps, ht, h, h1, h2 => by
    obtain ⟨v, vs', d, ds', p, q, rfl, rfl, rfl, ⟨fuel, hf⟩, hr⟩ := trodAll_cons h
    refine ⟨p, q, ⟨fuel, DataW.trod_stays (x := (d, p)) stay_kids stay_pos (fun h => by cases h) (ht t (by simp)) hf (fun x hx => h1 x (List.mem_append_left _ hx)) (fun x hx => h2 x (List.mem_append_left _ hx))⟩, ?_, rfl⟩
    exact trodAll_stays (fun t h => ht t (List.mem_cons_of_mem _ h)) hr (fun x hx => h1 x (List.mem_append_right _ hx)) (fun x hx => h2 x (List.mem_append_right _ hx))

/-- A law that returned true and left everything alone. -/
theorem post_true {H : Type} {enc : TypeId × Value → H} {f : Func} {s : ChangeSpec} {W W' : World} {args : Array Value} {ds gs : List (DataW H)} {before : List MemPlace}
    (hW : DataW.Whole enc Tryd.prog f.params.toList s.vars false W args.toList ds gs before) (hvars : s.vars = []) (hT : ∀ t ∈ f.params.toList, t < Tryd.prog.types.size)
    (hrt : f.resultTypes = #[4]) (hres : (s.fn H ds).results = [.lit (.bool true)]) (hargs : (s.fn H ds).args = ds) (hv : (s.fn H ds).vars = []) (hb : Below W.heap.size W W') :
    s.post enc Tryd.prog f false true false false W args (.bool true) W' := by
  have hlt := hW.lt
  have hW0 := hW
  obtain ⟨p, q, hA, hV, rfl, _, _⟩ := hW
  rw [hvars] at hV
  obtain ⟨rfl, rfl⟩ := trodVars_none hV
  rw [List.append_nil] at hlt
  refine ⟨ds, [], p ++ [], [], p, [], hW0, ?_, ?_, ?_, hb.frame _, fun h => by cases h⟩
  · rw [List.append_nil, hres, hrt]
    exact trodAll_cons_mk (shut_bool Tryd.underlying4 _) trodAll_mk0
  · rw [List.append_nil, hargs]
    exact trodAll_stays hT hA (fun x hx => hb.same (hlt x hx)) (fun x hx => by simpa using hlt x hx)
  · rw [List.append_nil, hv, hvars]
    exact rfl

end Go.Proofs.YtpbdcghiabhliaaDoor
/-
  A SLICE OF BYTES THAT CAME IN.
-/
namespace Go.Proofs.YtpbdcghiabhliaaDoor
open Go.ChangeShapes Go.WideShapes Go.ChangeAt Go.RowKit
open Go.ChangeMaps (open_string shut_string)

theorem cellsU8q : Tryd.prog.cellsOf 5 = 1 := by kernel_rfl
set_option maxRecDepth 1000000 in
/-- A slice of bytes that came in. -/
theorem open_bytes {H : Type} {enc : TypeId × Value → H} {W : World} {base : Nat} {v : Value} {d : DataW H} {p : List MemPlace} (hv : Value.okWide Tryd.prog W .any base 26 v)
    (h : DataW.Trod enc Tryd.prog W 0 (fun _ => true) true 26 v d p) : ∃ bs, BSI W v bs := by
  obtain ⟨a0, len, cap, rfl⟩ := okWide_slice Tryd.underlying26 hv
  obtain ⟨fuel, hf⟩ := h
  rcases open_ints Tryd.underlying26 Tryd.underlying5 cellsU8q hf with ⟨hcs, hx⟩ | ⟨a, len', cap', zs, hcs, _, hl, hm, hz, hx, hcell, hwz⟩
  · simp only [Prod.mk.injEq] at hx
    obtain ⟨rfl, rfl⟩ := hx
    simp [Value.cells] at hcs
    obtain ⟨rfl, rfl, rfl⟩ := hcs
    exact ⟨[], .inl ⟨rfl, rfl⟩⟩
  · simp only [Prod.mk.injEq] at hx
    obtain ⟨rfl, rfl⟩ := hx
    simp [Value.cells] at hcs
    obtain ⟨rfl, rfl, rfl⟩ := hcs
    simp only [if_true] at hz
    have hl2 : (zs.take len).length = len := by rw [List.length_take]; omega
    refine ⟨(zs.take len).map fun z => UInt8.ofNat z.toNat, .inr ⟨a, cap, by rw [List.length_map, hl2], by rw [List.length_map, hl2]; exact hl, fun j u hj => ?_⟩⟩
    · unfold Lib.byteCells at hj
      rw [List.map_map, List.getElem?_map] at hj
      obtain ⟨z, hz1, rfl⟩ := Option.map_eq_some_iff.1 hj
      have hj1 : j < len := by have := (List.getElem?_eq_some_iff.1 hz1).1; omega
      rw [List.getElem?_take_of_lt hj1] at hz1
      obtain ⟨hj2, hz3⟩ := List.getElem?_eq_some_iff.1 hz1
      have hc := hcell j hj2
      have e : zs.getD j 0 = z := by simp [List.getD, hz1]
      rw [e] at hc
      obtain ⟨n, hn, rfl⟩ := u8_nat (hwz z (by rw [← hz3]; exact List.getElem_mem hj2))
      rw [hc]
      simp only [Function.comp_apply, Int.toNat_natCast]
      rw [Asc.ofNat_toNat8 hn]

end Go.Proofs.YtpbdcghiabhliaaDoor
/-
  The plain law of PatternJoins: two patterns in parentheses, one after the other or as alternatives.
-/
namespace Go.Proofs.YtpbdcghiabhliaaDoor

theorem atom_grp {t : NT} (hh : Hd t) (h : BkO t) {l : List UInt8} {i d : Nat} {r : List UInt8} (hd0 : l.drop i = 40 :: (nodL t ++ 41 :: r)) (hl : l.length ≤ i + d) : atomM (choM l d) l i = .ok (t, i + (nodL t).length + 2) ∧ l.drop (i + (nodL t).length + 2) = r := by
  have a0 := at_dr hd0
  have hd1 := dr_next hd0
  have hd2 := dr_app hd1
  have a2 := at_dr hd2
  have hd3 := dr_next hd2
  obtain ⟨c, u, e2, hc⟩ := hh
  have hcap : capN (l.drop (i + 1)) = 0 := by
    rw [hd1, e2]
    exact cap_none (hd_letter hc)
  have e : i + 1 + (nodL t).length + 1 = i + (nodL t).length + 2 := by omega
  rw [e] at hd3
  refine ⟨?_, hd3⟩
  unfold atomM
  rw [if_pos (by rw [a0]; rfl), grpM, grpI, hcap, if_neg (Nat.lt_irrefl 0), h l (i + 1) d _ hd1 (by omega) (.inr (by rw [a2]; rfl))]
  simp only
  rw [if_pos (by rw [a2]; rfl), if_neg (Nat.lt_irrefl 0), e]
theorem rep_grp {t : NT} (hh : Hd t) (h : BkO t) {l : List UInt8} {i d : Nat} {r : List UInt8} (hd0 : l.drop i = 40 :: (nodL t ++ 41 :: r)) (hl : l.length ≤ i + d) (hf : F1 l (i + (nodL t).length + 2)) : repM (choM l d) l i = .ok (t, i + (nodL t).length + 2) ∧ l.drop (i + (nodL t).length + 2) = r := by
  obtain ⟨ha, hd⟩ := atom_grp hh h hd0 hl
  refine ⟨?_, hd⟩
  unfold repM
  rw [ha]
  simp only
  rw [if_neg hf.1, if_neg hf.2.1, if_neg hf.2.2.1, if_neg hf.2.2.2]
theorem catL_stop (ch : Nat → Out NT) (l : List UInt8) (n i : Nat) (ts : List NT) (h : F2 l i) : catL ch l (n + 1) i ts = .ok (joinT 2 ts, i) := by
  rw [catL, if_pos (show Asc.at_ l i = 999 ∨ Asc.at_ l i = 124 ∨ Asc.at_ l i = 41 from h)]
theorem catL_go (ch : Nat → Out NT) (l : List UInt8) (n i : Nat) (ts : List NT) {d : UInt8} {r : List UInt8} (hc : HdU d) (hd : l.drop i = d :: r) {t : NT} {j : Nat} (h : repM ch l i = .ok (t, j)) : catL ch l (n + 1) i ts = catL ch l n j (ts ++ [t]) := by
  rw [catL, if_neg (not_f2 hc hd), h]
/-- The two, side by side. -/
def joinS (op : Int) (s t : List UInt8) : List UInt8 := 40 :: (s ++ 41 :: ((if op = 3 then [124] else []) ++ 40 :: (t ++ [41])))
theorem cho_joins {a b : NT} (ha : Hd a) (hb : Hd b) (oa : BkO a) (ob : BkO b) (op : Int) (hop : op = 2 ∨ op = 3) {l : List UInt8} (hl : l = joinS op (nodL a) (nodL b)) (d : Nat) (hd : l.length < d) : choM l d 0 = .ok (.node op [] [] [a, b] 0 0, l.length) := by
  obtain ⟨e, rfl⟩ : ∃ e, d = e + 1 := ⟨d - 1, by omega⟩
  have hlen : 1 < l.length := by rw [hl, joinS]; simp; omega
  obtain ⟨n, hn⟩ : ∃ n, l.length = n + 2 := ⟨l.length - 2, by omega⟩
  have h9 : ∀ i, l.drop i = [] → F2 l i := fun i h => .inl (at_dr0 h)
  have h40 : HdU 40 := .inl rfl
  rw [choM, choB, catM]
  rcases hop with rfl | rfl
  · have hd0 : l.drop 0 = 40 :: (nodL a ++ 41 :: (40 :: (nodL b ++ 41 :: []))) := by rw [List.drop_zero, hl, joinS, if_neg (by decide)]; simp
    have hx := atom_grp (d := e) ha oa hd0 (by omega)
    obtain ⟨ra, hd1⟩ := rep_grp (d := e) ha oa hd0 (by omega) (f1_hd h40 hx.2)
    have hy := atom_grp (d := e) hb ob hd1 (by omega)
    obtain ⟨rb, hd2⟩ := rep_grp (d := e) hb ob hd1 (by omega) (F2.f1 (h9 _ hy.2))
    have hend : 0 + (nodL a).length + 2 + (nodL b).length + 2 = l.length := by rw [hl, joinS, if_neg (by decide)]; simp; omega
    rw [hn, catL_go _ _ _ _ _ h40 hd0 ra, catL_go _ _ _ _ _ h40 hd1 rb, catL_stop _ _ _ _ _ (h9 _ hd2)]
    simp only
    rw [altL, if_neg (by rw [at_dr0 hd2]; decide), ← hn, hend]
    rfl
  · have hd0 : l.drop 0 = 40 :: (nodL a ++ 41 :: (124 :: (40 :: (nodL b ++ 41 :: [])))) := by rw [List.drop_zero, hl, joinS, if_pos rfl]; simp
    have hx := atom_grp (d := e) ha oa hd0 (by omega)
    have h2 : F2 l (0 + (nodL a).length + 2) := .inr (.inl (at_dr hx.2))
    obtain ⟨ra, hd1⟩ := rep_grp (d := e) ha oa hd0 (by omega) (F2.f1 h2)
    have hd1' := dr_next hd1
    have hy := atom_grp (d := e) hb ob hd1' (by omega)
    obtain ⟨rb, hd2⟩ := rep_grp (d := e) hb ob hd1' (by omega) (F2.f1 (h9 _ hy.2))
    have hend : 0 + (nodL a).length + 2 + 1 + (nodL b).length + 2 = l.length := by rw [hl, joinS, if_pos rfl]; simp; omega
    rw [hn, catL_go _ _ _ _ _ h40 hd0 ra, catL_stop _ _ _ _ _ h2]
    simp only
    rw [altL, if_pos (by rw [at_dr hd1]; rfl), catM, hn, catL_go _ _ _ _ _ h40 hd1' rb, catL_stop _ _ _ _ _ (h9 _ hd2)]
    simp only
    rw [altL, if_neg (by rw [at_dr0 hd2]; decide), ← hn, hend]
    rfl
/-- What Parse says of the two. -/
theorem par_joins {a b : NT} (ha : Wrt a) (hb : Wrt b) (op : Int) (hop : op = 2 ∨ op = 3) (hlen : (nodL a).length + (nodL b).length ≤ 395) :
    (parM (joinS op (nodL a) (nodL b))).2.2 = ckE (.node op [] [] [a, b] 0 0) ∧ ((parM (joinS op (nodL a) (nodL b))).2.2 = 0 → (parM (joinS op (nodL a) (nodL b))).1 = some (.node op [] [] [a, b] 0 0)) := by
  have ga := (ckE_good ha.1).1
  have gb := (ckE_good hb.1).1
  obtain ⟨l, hl⟩ : ∃ l, joinS op (nodL a) (nodL b) = l := ⟨_, rfl⟩
  have hx := cho_joins (nod_head _ a (Nat.lt_succ_self _) ga) (nod_head _ b (Nat.lt_succ_self _) gb) (nod_back _ a (Nat.lt_succ_self _) ga ha.2.1).o (nod_back _ b (Nat.lt_succ_self _) gb hb.2.1).o op hop hl.symm (l.length + 1) (Nat.lt_succ_self _)
  have hle : ¬ 400 < l.length := by
    rw [← hl, joinS]
    split <;> simp <;> omega
  rw [hl]
  unfold parM
  rw [if_neg hle, hx]
  simp only
  rw [if_neg (Nat.lt_irrefl _)]
  split
  · next h => exact ⟨h.symm, fun _ => rfl⟩
  · next h => exact ⟨rfl, fun h0 => absurd h0 h⟩
end Go.Proofs.YtpbdcghiabhliaaDoor
/-
  PatternJoins: for every two lists of choices the law's answer is yes.
-/
namespace Go.Proofs.YtpbdcghiabhliaaDoor
open Go.RowKit


theorem join_str2 (s t : List UInt8) : (ByteArray.mk #[40]) ++ ⟨s.toArray⟩ ++ ⟨#[41]⟩ ++ ⟨#[]⟩ ++ ⟨#[40]⟩ ++ ⟨t.toArray⟩ ++ ⟨#[41]⟩ = ⟨(joinS 2 s t).toArray⟩ := by
  show (ByteArray.mk ([40] : List UInt8).toArray) ++ ⟨s.toArray⟩ ++ ⟨([41] : List UInt8).toArray⟩ ++ ⟨([] : List UInt8).toArray⟩ ++ ⟨([40] : List UInt8).toArray⟩ ++ ⟨t.toArray⟩ ++ ⟨([41] : List UInt8).toArray⟩ = _
  rw [ba_app, ba_app, ba_app, ba_app, ba_app, ba_app, joinS, if_neg (by decide)]
  simp
theorem join_str3 (s t : List UInt8) : (ByteArray.mk #[40]) ++ ⟨s.toArray⟩ ++ ⟨#[41]⟩ ++ ⟨#[124]⟩ ++ ⟨#[40]⟩ ++ ⟨t.toArray⟩ ++ ⟨#[41]⟩ = ⟨(joinS 3 s t).toArray⟩ := by
  show (ByteArray.mk ([40] : List UInt8).toArray) ++ ⟨s.toArray⟩ ++ ⟨([41] : List UInt8).toArray⟩ ++ ⟨([124] : List UInt8).toArray⟩ ++ ⟨([40] : List UInt8).toArray⟩ ++ ⟨t.toArray⟩ ++ ⟨([41] : List UInt8).toArray⟩ = _
  rw [ba_app, ba_app, ba_app, ba_app, ba_app, ba_app, joinS, if_pos rfl]
  simp

theorem nat_two (w : World) (op : Int) {a b : NT} {u0 u1 u2 u3 u4 u5 x0 x1 x2 x3 x4 x5 : Value} {ty : TypeId} (ha : NAt w a (.agg #[u0, u1, u2, u3, u4, u5])) (hb : NAt w b (.agg #[x0, x1, x2, x3, x4, x5])) :
    NAt (w.alloc (.cells #[u0, u1, u2, u3, u4, u5, x0, x1, x2, x3, x4, x5] ty)) (.node op [] [] [a, b] 0 0) (.agg #[.int .i64 op, .slice none 0 0, .string ⟨#[]⟩, .slice (some ⟨w.heap.size, 0, none⟩) 2 2, .int .i64 0, .int .i64 0]) := by
  rw [NAt]
  refine ⟨none, 0, some ⟨w.heap.size, 0, none⟩, 2, rfl, ⟨⟨none, 0, rfl, by simp, fun i h => by simp at h⟩, by simp, by simp⟩, fun _ => ⟨w.heap.size, 0, rfl, by simp, fun i hi => ?_⟩⟩
  have hb2 := al_below w (.cells #[u0, u1, u2, u3, u4, u5, x0, x1, x2, x3, x4, x5] ty)
  match i, hi with
  | 0, _ => exact ⟨u0, u1, u2, u3, u4, u5, by simp [go_sem], by simp [go_sem], by simp [go_sem], by simp [go_sem], by simp [go_sem], by simp [go_sem], NAt.later hb2 _ _ ha⟩
  | 1, _ => exact ⟨x0, x1, x2, x3, x4, x5, by simp [go_sem], by simp [go_sem], by simp [go_sem], by simp [go_sem], by simp [go_sem], by simp [go_sem], NAt.later hb2 _ _ hb⟩
theorem parse_joins {a b : NT} (ha : Wrt a) (hb : Wrt b) (op : Int) (hop : op = 2 ∨ op = 3) (hlen : (nodL a).length + (nodL b).length ≤ 395) (w : World) (hk : Kinds w) :
    Calls Tryd.prog 15 #[.string ⟨(joinS op (nodL a) (nodL b)).toArray⟩] w fun e w' => ∃ (v : Value) (t : NT) (O : Nat), e = .returned (.tuple #[v, .int .i64 (O : Int), .int .i64 (ckE (.node op [] [] [a, b] 0 0) : Int)]) ∧ NG (fun k => w.heap.size ≤ k) w' t v ∧ Below w.heap.size w w' ∧ (ckE (.node op [] [] [a, b] 0 0) = 0 → t = .node op [] [] [a, b] 0 0) := by
  refine (parse_any _ w hk).mono fun e w' hz => ?_
  obtain ⟨v, u, he, hn, hb', h0⟩ := hz
  obtain ⟨h1, h2⟩ := par_joins ha hb op hop hlen
  refine ⟨v, u, _, by rw [he, h1], hn, hb', fun h => ?_⟩
  rw [h1] at h0
  have := h2 (by rw [h1]; exact h)
  rw [h0 h] at this
  exact Option.some.inj this

set_option maxRecDepth 1000000 in
set_option maxHeartbeats 8000000 in
theorem joins_any (vc vd : Value) (cs ds : List UInt8) (w : World) (hc : BS w vc cs) (hd : BS w vd ds) (hk : Kinds w) :
    Calls Tryd.prog 5 #[vc, vd] w fun e w' => e = .returned (.bool true) ∧ Below w.heap.size w w' := by
  have HCS := Lib.hid hc
  have HDS := Lib.hid hd
  have HK := Lib.hid hk
  clear hc hd hk
  go_enter Tryd.func5, Tryd.ntmps5
  go_wp2_with fail
  refine (aw_any _ HK.out).mono ?_
  rintro e w1 ⟨rfl, hb1⟩
  have HB1 := Lib.hid hb1
  clear hb1
  go_wp2_with fail
  refine (new_any vc cs 60 w1 (HCS.out.below HB1.out) (by omega)).mono ?_
  rintro e w2 ⟨rfl, hca, hb2⟩
  obtain ⟨g, hg⟩ : ∃ g, g = w1.heap.size := ⟨_, rfl⟩
  have hgW : w.heap.size ≤ g := by have := HB1.out.size; omega
  have HB2 := Lib.hid (HB1.out.trans (hb2.mono HB1.out.size))
  rw [← hg] at hca ⊢
  have HCA := Lib.hid hca
  clear hg hb2 hca
  go_wp2_with fail
  refine (node_any 2 (by omega) g w2 HCA.out).mono ?_
  rintro e w3 ⟨vp, tp, rfl, hT, hgd, hsm⟩
  obtain ⟨op1, rs1, nm1, ks1, mn1, mx1, ra1, rc1, a1, c1, _, rfl, _⟩ := hT.open
  have HT3 := Lib.hid hT.at
  have HB3 := Lib.hid (Apart.below HB2.out hgd.ap hgW)
  clear hT hgd hsm
  go_wp2_with fail
  refine (new_any vd ds 60 w3 (HDS.out.below HB3.out) (by omega)).mono ?_
  rintro e w4 ⟨rfl, hca, hb4⟩
  obtain ⟨g2, hg⟩ : ∃ g2, g2 = w3.heap.size := ⟨_, rfl⟩
  have hgW2 : w3.heap.size ≤ g2 := by omega
  have HB4 := Lib.hid hb4
  rw [← hg] at hca ⊢
  have HCA2 := Lib.hid hca
  clear hg hb4 hca
  go_wp2_with fail
  refine (node_any 2 (by omega) g2 w4 HCA2.out).mono ?_
  rintro e w5 ⟨vq, tq, rfl, hT, hgd, hsm⟩
  obtain ⟨op2, rs2, nm2, ks2, mn2, mx2, ra2, rc2, a2, c2, _, rfl, _⟩ := hT.open
  have HS5 := Lib.hid hT.at
  have HB35 := Lib.hid (Apart.below HB4.out hgd.ap hgW2)
  have HT5 := Lib.hid (NAt.later HB35.out _ _ HT3.out)
  have HB5 := Lib.hid (HB3.out.trans (HB35.out.mono HB3.out.size))
  clear hT hgd hsm HB35 HT3
  have HBK1 := Lib.hid ((nE_new w5 op1 ra1 rs1.length rc1 nm1 a1 ks1.length c1 mn1 mx1).on (al_below _ (.cells #[.int .i64 op2, .slice ra2 rs2.length rc2, .string ⟨nm2.toArray⟩, .slice a2 ks2.length c2, .int .i64 mn2, .int .i64 mx2] 25)) (by simp))
  have hs1 : (w5.alloc (.cells #[.int .i64 op1, .slice ra1 rs1.length rc1, .string ⟨nm1.toArray⟩, .slice a1 ks1.length c1, .int .i64 mn1, .int .i64 mx1] 25)).heap.size = w5.heap.size + 1 := by simp
  have HBK2 := Lib.hid (nE_new (w5.alloc (.cells #[.int .i64 op1, .slice ra1 rs1.length rc1, .string ⟨nm1.toArray⟩, .slice a1 ks1.length c1, .int .i64 mn1, .int .i64 mx1] 25)) op2 ra2 rs2.length rc2 nm2 a2 ks2.length c2 mn2 mx2)
  rw [hs1] at HBK2
  have hb51 := al_below w5 (.cells #[.int .i64 op1, .slice ra1 rs1.length rc1, .string ⟨nm1.toArray⟩, .slice a1 ks1.length c1, .int .i64 mn1, .int .i64 mx1] 25)
  have HB56 := Lib.hid (hb51.alloc hb51.size (.cells #[.int .i64 op2, .slice ra2 rs2.length rc2, .string ⟨nm2.toArray⟩, .slice a2 ks2.length c2, .int .i64 mn2, .int .i64 mx2] 25))
  have HT6 := Lib.hid (NAt.later HB56.out _ _ HT5.out)
  have HS6 := Lib.hid (NAt.later HB56.out _ _ HS5.out)
  have HB6 := Lib.hid (HB5.out.trans (HB56.out.mono HB5.out.size))
  obtain ⟨w6, hw6⟩ : ∃ w6, (w5.alloc (.cells #[.int .i64 op1, .slice ra1 rs1.length rc1, .string ⟨nm1.toArray⟩, .slice a1 ks1.length c1, .int .i64 mn1, .int .i64 mx1] 25)).alloc (.cells #[.int .i64 op2, .slice ra2 rs2.length rc2, .string ⟨nm2.toArray⟩, .slice a2 ks2.length c2, .int .i64 mn2, .int .i64 mx2] 25) = w6 := ⟨_, rfl⟩
  rw [hw6] at HBK1 HBK2 HT6 HS6 HB6
  obtain ⟨p0, p1, p2, p3, p4, p5⟩ := bkn HBK1.out
  clear hb51 HB56 HT5 HS5 HB5
  go_wp2_with fail
  clear hw6
  refine (format_law _ _ _ HT6.out (HK.out.below HB6.out)).mono ?_
  rintro e w7 ⟨L1, E1, rfl, hb7, hok1, _⟩
  clear p0 p1 p2 p3 p4 p5
  have HT7 := Lib.hid (NAt.later hb7 _ _ HT6.out)
  have HS7 := Lib.hid (NAt.later hb7 _ _ HS6.out)
  have HB7 := Lib.hid (HB6.out.trans (hb7.mono HB6.out.size))
  have HBK17 := Lib.hid (HBK1.out.on hb7 HBK1.out.lt)
  have HBK27 := Lib.hid (HBK2.out.on hb7 HBK2.out.lt)
  obtain ⟨q0, q1, q2, q3, q4, q5⟩ := bkn HBK27.out
  have HO1 := Lib.hid hok1
  clear hb7 HT6 HS6 HB6 HBK1 HBK2 hok1
  go_wp2_with fail
  refine (format_law _ _ _ HS7.out (HK.out.below HB7.out)).mono ?_
  rintro e w8 ⟨L2, E2, rfl, hb8, hok2, _⟩
  clear q0 q1 q2 q3 q4 q5
  have HT8 := Lib.hid (NAt.later hb8 _ _ HT7.out)
  have HS8 := Lib.hid (NAt.later hb8 _ _ HS7.out)
  have HB8 := Lib.hid (HB7.out.trans (hb8.mono HB7.out.size))
  have HBK18 := Lib.hid (HBK17.out.on hb8 HBK17.out.lt)
  have HBK28 := Lib.hid (HBK27.out.on hb8 HBK27.out.lt)
  have HO2 := Lib.hid hok2
  clear hb8 HT7 HS7 HB7 HBK17 HBK27 hok2
  by_cases hE1 : E1 = 0
  · by_cases hE2 : E2 = 0
    · subst hE1 hE2
      obtain ⟨rfl, hW1⟩ := HO1.out rfl
      obtain ⟨rfl, hW2⟩ := HO2.out rfl
      clear HO1 HO2
      have HPJ := Lib.hid fun op hop hlen W hk => parse_joins hW1 hW2 op hop hlen W hk
      have hl1 := hW1.2.2
      have hl2 := hW2.2.2
      obtain ⟨s, hs⟩ : ∃ s, nodL tp = s := ⟨_, rfl⟩
      obtain ⟨t, ht⟩ : ∃ t, nodL tq = t := ⟨_, rfl⟩
      rw [hs, ht] at HPJ
      rw [hs] at hl1 ⊢
      rw [ht] at hl2 ⊢
      clear hW1 hW2 hs ht
      have hw1 : IntKind.i64.wrap ((s.length : Int) + (t.length : Int)) = (s.length : Int) + (t.length : Int) := IntWalk.i64_in _ (by omega)
      by_cases hlen : 395 < s.length + t.length
      · have z1 : decide ((395 : Int) < (s.length : Int) + (t.length : Int)) = true := decide_eq_true (by omega)
        go_wp2_with fail
        go_ret
        exact ⟨rfl, HB8.out⟩
      · have z1 : decide ((395 : Int) < (s.length : Int) + (t.length : Int)) = false := decide_eq_false (by omega)
        have HL : Hid (s.length + t.length ≤ 395) := Lib.hid (by omega)
        have hsl : s.length ≤ 395 := by omega
        have htl : t.length ≤ 395 := by omega
        clear hl1 hl2
        have hb9 := al_below w8 (.cells #[.int .i64 2, .int .i64 3] 3)
        have hq0 : (w8.alloc (.cells #[.int .i64 2, .int .i64 3] 3)).cell? ⟨w8.heap.size, 0, none⟩ = some (.int .i64 2) := by simp [go_sem]
        have hq1 : (w8.alloc (.cells #[.int .i64 2, .int .i64 3] 3)).cell? ⟨w8.heap.size, 1, none⟩ = some (.int .i64 3) := by simp [go_sem]
        have hq : w8.heap.size < (w8.alloc (.cells #[.int .i64 2, .int .i64 3] 3)).heap.size := by simp
        have HQ0 := Lib.hid hq0
        have HQ1 := Lib.hid hq1
        have HBK19 := Lib.hid (HBK18.out.on hb9 HBK18.out.lt)
        have HBK29 := Lib.hid (HBK28.out.on hb9 HBK28.out.lt)
        have HT9 := Lib.hid (NAt.later hb9 _ _ HT8.out)
        have HS9 := Lib.hid (NAt.later hb9 _ _ HS8.out)
        have HB9 := Lib.hid (HB8.out.trans (hb9.mono HB8.out.size))
        obtain ⟨w9, hw9⟩ : ∃ w9, w8.alloc (.cells #[.int .i64 2, .int .i64 3] 3) = w9 := ⟨_, rfl⟩
        rw [hw9] at HQ0 HQ1 HBK19 HBK29 HT9 HS9 HB9 hq
        clear hb9 hq0 hq1 HT8 HS8 HB8 HBK18 HBK28
        go_wp2_with fail
        clear hw9
        obtain ⟨b9, hb9⟩ : ∃ b9, w8.heap.size = b9 := ⟨_, rfl⟩
        rw [hb9] at HQ0 HQ1 hq
        try rw [hb9]
        clear hb9 z1 hw1
        go_loopw [52] (fun i wr => ∃ k : Nat, i = .int .i64 k ∧ k ≤ 2 ∧ Hid (Below w9.heap.size w9 wr)) (fun i _ => 2 - (intOf i).toNat)
        case atStart => exact ⟨0, rfl, by omega, Lib.hid (Below.refl _ _)⟩
        case round =>
          obtain ⟨k, rfl, hk2, HB⟩ := hrel
          have HBW := Lib.hid (HB9.out.trans (HB.out.mono HB9.out.size))
          have e0 := (HB.out.cell (p := ⟨b9, 0, none⟩) hq).trans HQ0.out
          have e1 := (HB.out.cell (p := ⟨b9, 1, none⟩) hq).trans HQ1.out
          obtain ⟨p0, p1, p2, p3, p4, p5⟩ := bkn (HBK19.out.on HB.out HBK19.out.lt)
          obtain ⟨q0, q1, q2, q3, q4, q5⟩ := bkn (HBK29.out.on HB.out HBK29.out.lt)
          have HTR := Lib.hid (NAt.later HB.out _ _ HT9.out)
          have HSR := Lib.hid (NAt.later HB.out _ _ HS9.out)
          rcases (show k = 0 ∨ k = 1 ∨ k = 2 by omega) with rfl | rfl | rfl
          · have HW0 := Lib.hid (nat_two wr 2 (ty := 25) HTR.out HSR.out)
            have hal := al_below wr (.cells #[.int .i64 op1, .slice ra1 rs1.length rc1, .string ⟨nm1.toArray⟩, .slice a1 ks1.length c1, .int .i64 mn1, .int .i64 mx1, .int .i64 op2, .slice ra2 rs2.length rc2, .string ⟨nm2.toArray⟩, .slice a2 ks2.length c2, .int .i64 mn2, .int .i64 mx2] 25)
            have HWT := Lib.hid (NAt.later (al_below _ (.cells #[.int .i64 2, .slice none 0 0, .string ⟨#[]⟩, .slice (some ⟨wr.heap.size, 0, none⟩) 2 2, .int .i64 0, .int .i64 0] 25)) _ _ HW0.out)
            have HBK3 := Lib.hid (nE_new (wr.alloc (.cells #[.int .i64 op1, .slice ra1 rs1.length rc1, .string ⟨nm1.toArray⟩, .slice a1 ks1.length c1, .int .i64 mn1, .int .i64 mx1, .int .i64 op2, .slice ra2 rs2.length rc2, .string ⟨nm2.toArray⟩, .slice a2 ks2.length c2, .int .i64 mn2, .int .i64 mx2] 25)) 2 none 0 0 [] (some ⟨wr.heap.size, 0, none⟩) 2 2 0 0)
            have hs2 : (wr.alloc (.cells #[.int .i64 op1, .slice ra1 rs1.length rc1, .string ⟨nm1.toArray⟩, .slice a1 ks1.length c1, .int .i64 mn1, .int .i64 mx1, .int .i64 op2, .slice ra2 rs2.length rc2, .string ⟨nm2.toArray⟩, .slice a2 ks2.length c2, .int .i64 mn2, .int .i64 mx2] 25)).heap.size = wr.heap.size + 1 := by simp
            rw [hs2] at HBK3
            have HB10 := Lib.hid ((HB.out.trans (hal.mono HB.out.size)).trans ((al_below (wr.alloc (.cells #[.int .i64 op1, .slice ra1 rs1.length rc1, .string ⟨nm1.toArray⟩, .slice a1 ks1.length c1, .int .i64 mn1, .int .i64 mx1, .int .i64 op2, .slice ra2 rs2.length rc2, .string ⟨nm2.toArray⟩, .slice a2 ks2.length c2, .int .i64 mn2, .int .i64 mx2] 25)) (.cells #[.int .i64 2, .slice none 0 0, .string ⟨#[]⟩, .slice (some ⟨wr.heap.size, 0, none⟩) 2 2, .int .i64 0, .int .i64 0] 25)).mono (HB.out.trans (hal.mono HB.out.size)).size))
            obtain ⟨w10, hw10⟩ : ∃ w10, (wr.alloc (.cells #[.int .i64 op1, .slice ra1 rs1.length rc1, .string ⟨nm1.toArray⟩, .slice a1 ks1.length c1, .int .i64 mn1, .int .i64 mx1, .int .i64 op2, .slice ra2 rs2.length rc2, .string ⟨nm2.toArray⟩, .slice a2 ks2.length c2, .int .i64 mn2, .int .i64 mx2] 25)).alloc (.cells #[.int .i64 2, .slice none 0 0, .string ⟨#[]⟩, .slice (some ⟨wr.heap.size, 0, none⟩) 2 2, .int .i64 0, .int .i64 0] 25) = w10 := ⟨_, rfl⟩
            rw [hw10] at HBK3 HB10
            have HWT2 : Hid (NAt w10 (.node 2 [] [] [tp, tq] 0 0) (.agg #[.int .i64 2, .slice none 0 0, .string ⟨#[]⟩, .slice (some ⟨wr.heap.size, 0, none⟩) 2 2, .int .i64 0, .int .i64 0])) := Lib.hid (hw10 ▸ HWT.out)
            clear HWT HW0 hal hs2
            have HJS := Lib.hid (join_str2 s t)
            have HPZ := Lib.hid (HPJ.out 2 (.inl rfl) HL.out)
            have HCK := Lib.hid fun v W (h : NAt W (.node 2 [] [] [tp, tq] 0 0) v) hk => check_any (.node 2 [] [] [tp, tq] 0 0) v W h hk
            have HSM := Lib.hid fun v x W (h : NAt W (.node 2 [] [] [tp, tq] 0 0) v) (h2 : NAt W (.node 2 [] [] [tp, tq] 0 0) x) => same_self _ v x W h h2
            obtain ⟨T, hT⟩ : ∃ T, NT.node 2 [] [] [tp, tq] 0 0 = T := ⟨_, rfl⟩
            rw [hT] at HWT2 HPZ HCK HSM
            obtain ⟨E, hE⟩ : ∃ E, ckE T = E := ⟨_, rfl⟩
            rw [hE] at HPZ HCK
            clear hT hE
            have HW10 := Lib.hid hw10
            clear hw10
            go_wp2_with fail
            rw [HW10.out, HJS.out]
            clear HW10 HJS
            refine (HPZ.out _ (HK.out.below (HB9.out.trans (HB10.out.mono HB9.out.size)))).mono ?_
            rintro e w11 ⟨v3, t3, O3, rfl, hT3, hb11, hz3⟩
            obtain ⟨op3, rs3, nm3, ks3, mn3, mx3, ra3, rc3, a3, c3, _, rfl, _⟩ := hT3.open
            clear p0 p1 p2 p3 p4 p5 q0 q1 q2 q3 q4 q5 e0 e1
            have HT3 := Lib.hid (NAt.later (al_below w11 (.cells #[.int .i64 op3, .slice ra3 rs3.length rc3, .string ⟨nm3.toArray⟩, .slice a3 ks3.length c3, .int .i64 mn3, .int .i64 mx3] 25)) _ _ hT3.at)
            have HBK4 := Lib.hid (nE_new w11 op3 ra3 rs3.length rc3 nm3 a3 ks3.length c3 mn3 mx3)
            have HBK5 := Lib.hid ((HBK3.out.on hb11 HBK3.out.lt).on (al_below w11 (.cells #[.int .i64 op3, .slice ra3 rs3.length rc3, .string ⟨nm3.toArray⟩, .slice a3 ks3.length c3, .int .i64 mn3, .int .i64 mx3] 25)) (Nat.lt_of_lt_of_le HBK3.out.lt hb11.size))
            have HWT3 := Lib.hid (NAt.later (al_below w11 (.cells #[.int .i64 op3, .slice ra3 rs3.length rc3, .string ⟨nm3.toArray⟩, .slice a3 ks3.length c3, .int .i64 mn3, .int .i64 mx3] 25)) _ _ (NAt.later hb11 _ _ HWT2.out))
            have HB11 := Lib.hid (HB10.out.trans (hb11.mono HB10.out.size))
            have HB12 := Lib.hid (HB11.out.trans ((al_below w11 (.cells #[.int .i64 op3, .slice ra3 rs3.length rc3, .string ⟨nm3.toArray⟩, .slice a3 ks3.length c3, .int .i64 mn3, .int .i64 mx3] 25)).mono HB11.out.size))
            have HZ3 := Lib.hid hz3
            obtain ⟨w12, hw12⟩ : ∃ w12, w11.alloc (.cells #[.int .i64 op3, .slice ra3 rs3.length rc3, .string ⟨nm3.toArray⟩, .slice a3 ks3.length c3, .int .i64 mn3, .int .i64 mx3] 25) = w12 := ⟨_, rfl⟩
            rw [hw12] at HT3 HBK4 HBK5 HWT3 HB12
            obtain ⟨p0, p1, p2, p3, p4, p5⟩ := bkn HBK5.out
            clear hT3 hb11 hz3 HB11 HB10 HBK3 HWT2
            go_wp2_with fail
            clear hw12
            refine (HCK.out _ _ HWT3.out (HK.out.below (HB9.out.trans (HB12.out.mono HB9.out.size)))).mono ?_
            rintro e w13 ⟨rfl, hb13⟩
            clear p0 p1 p2 p3 p4 p5
            obtain ⟨p0, p1, p2, p3, p4, p5⟩ := bkn (HBK5.out.on hb13 HBK5.out.lt)
            obtain ⟨q0, q1, q2, q3, q4, q5⟩ := bkn (HBK4.out.on hb13 HBK4.out.lt)
            have HT4 := Lib.hid (NAt.later hb13 _ _ HT3.out)
            have HWT4 := Lib.hid (NAt.later hb13 _ _ HWT3.out)
            have HB13 := Lib.hid (HB12.out.trans (hb13.mono HB12.out.size))
            clear hb13 HT3 HWT3 HB12 HBK4 HBK5
            by_cases hz : E = 0
            · subst hz
              obtain rfl := HZ3.out rfl
              go_wp2_with fail
              refine (HSM.out _ _ _ HT4.out HWT4.out).mono ?_
              rintro e w14 ⟨rfl, hb14⟩
              have HB14 := Lib.hid (HB13.out.trans (hb14.mono HB13.out.size))
              clear hb14
              go_wp2_with fail
              go_roundw
              case rel => exact ⟨1, by first | rfl | go_num, by omega, HB14⟩
              case measure => simp [intOf]
            · have z8 : ((E : Int) == 0) = false := by rw [beq_eq_false_iff_ne]; omega
              go_wp2_with fail
              go_roundw
              case rel => exact ⟨1, by first | rfl | go_num, by omega, HB13⟩
              case measure => simp [intOf]
          · have HW0 := Lib.hid (nat_two wr 3 (ty := 25) HTR.out HSR.out)
            have hal := al_below wr (.cells #[.int .i64 op1, .slice ra1 rs1.length rc1, .string ⟨nm1.toArray⟩, .slice a1 ks1.length c1, .int .i64 mn1, .int .i64 mx1, .int .i64 op2, .slice ra2 rs2.length rc2, .string ⟨nm2.toArray⟩, .slice a2 ks2.length c2, .int .i64 mn2, .int .i64 mx2] 25)
            have HWT := Lib.hid (NAt.later (al_below _ (.cells #[.int .i64 3, .slice none 0 0, .string ⟨#[]⟩, .slice (some ⟨wr.heap.size, 0, none⟩) 2 2, .int .i64 0, .int .i64 0] 25)) _ _ HW0.out)
            have HBK3 := Lib.hid (nE_new (wr.alloc (.cells #[.int .i64 op1, .slice ra1 rs1.length rc1, .string ⟨nm1.toArray⟩, .slice a1 ks1.length c1, .int .i64 mn1, .int .i64 mx1, .int .i64 op2, .slice ra2 rs2.length rc2, .string ⟨nm2.toArray⟩, .slice a2 ks2.length c2, .int .i64 mn2, .int .i64 mx2] 25)) 3 none 0 0 [] (some ⟨wr.heap.size, 0, none⟩) 2 2 0 0)
            have hs2 : (wr.alloc (.cells #[.int .i64 op1, .slice ra1 rs1.length rc1, .string ⟨nm1.toArray⟩, .slice a1 ks1.length c1, .int .i64 mn1, .int .i64 mx1, .int .i64 op2, .slice ra2 rs2.length rc2, .string ⟨nm2.toArray⟩, .slice a2 ks2.length c2, .int .i64 mn2, .int .i64 mx2] 25)).heap.size = wr.heap.size + 1 := by simp
            rw [hs2] at HBK3
            have HB10 := Lib.hid ((HB.out.trans (hal.mono HB.out.size)).trans ((al_below (wr.alloc (.cells #[.int .i64 op1, .slice ra1 rs1.length rc1, .string ⟨nm1.toArray⟩, .slice a1 ks1.length c1, .int .i64 mn1, .int .i64 mx1, .int .i64 op2, .slice ra2 rs2.length rc2, .string ⟨nm2.toArray⟩, .slice a2 ks2.length c2, .int .i64 mn2, .int .i64 mx2] 25)) (.cells #[.int .i64 3, .slice none 0 0, .string ⟨#[]⟩, .slice (some ⟨wr.heap.size, 0, none⟩) 2 2, .int .i64 0, .int .i64 0] 25)).mono (HB.out.trans (hal.mono HB.out.size)).size))
            obtain ⟨w10, hw10⟩ : ∃ w10, (wr.alloc (.cells #[.int .i64 op1, .slice ra1 rs1.length rc1, .string ⟨nm1.toArray⟩, .slice a1 ks1.length c1, .int .i64 mn1, .int .i64 mx1, .int .i64 op2, .slice ra2 rs2.length rc2, .string ⟨nm2.toArray⟩, .slice a2 ks2.length c2, .int .i64 mn2, .int .i64 mx2] 25)).alloc (.cells #[.int .i64 3, .slice none 0 0, .string ⟨#[]⟩, .slice (some ⟨wr.heap.size, 0, none⟩) 2 2, .int .i64 0, .int .i64 0] 25) = w10 := ⟨_, rfl⟩
            rw [hw10] at HBK3 HB10
            have HWT2 : Hid (NAt w10 (.node 3 [] [] [tp, tq] 0 0) (.agg #[.int .i64 3, .slice none 0 0, .string ⟨#[]⟩, .slice (some ⟨wr.heap.size, 0, none⟩) 2 2, .int .i64 0, .int .i64 0])) := Lib.hid (hw10 ▸ HWT.out)
            clear HWT HW0 hal hs2
            have HJS := Lib.hid (join_str3 s t)
            have HPZ := Lib.hid (HPJ.out 3 (.inr rfl) HL.out)
            have HCK := Lib.hid fun v W (h : NAt W (.node 3 [] [] [tp, tq] 0 0) v) hk => check_any (.node 3 [] [] [tp, tq] 0 0) v W h hk
            have HSM := Lib.hid fun v x W (h : NAt W (.node 3 [] [] [tp, tq] 0 0) v) (h2 : NAt W (.node 3 [] [] [tp, tq] 0 0) x) => same_self _ v x W h h2
            obtain ⟨T, hT⟩ : ∃ T, NT.node 3 [] [] [tp, tq] 0 0 = T := ⟨_, rfl⟩
            rw [hT] at HWT2 HPZ HCK HSM
            obtain ⟨E, hE⟩ : ∃ E, ckE T = E := ⟨_, rfl⟩
            rw [hE] at HPZ HCK
            clear hT hE
            have HW10 := Lib.hid hw10
            clear hw10
            go_wp2_with fail
            rw [HW10.out, HJS.out]
            clear HW10 HJS
            refine (HPZ.out _ (HK.out.below (HB9.out.trans (HB10.out.mono HB9.out.size)))).mono ?_
            rintro e w11 ⟨v3, t3, O3, rfl, hT3, hb11, hz3⟩
            obtain ⟨op3, rs3, nm3, ks3, mn3, mx3, ra3, rc3, a3, c3, _, rfl, _⟩ := hT3.open
            clear p0 p1 p2 p3 p4 p5 q0 q1 q2 q3 q4 q5 e0 e1
            have HT3 := Lib.hid (NAt.later (al_below w11 (.cells #[.int .i64 op3, .slice ra3 rs3.length rc3, .string ⟨nm3.toArray⟩, .slice a3 ks3.length c3, .int .i64 mn3, .int .i64 mx3] 25)) _ _ hT3.at)
            have HBK4 := Lib.hid (nE_new w11 op3 ra3 rs3.length rc3 nm3 a3 ks3.length c3 mn3 mx3)
            have HBK5 := Lib.hid ((HBK3.out.on hb11 HBK3.out.lt).on (al_below w11 (.cells #[.int .i64 op3, .slice ra3 rs3.length rc3, .string ⟨nm3.toArray⟩, .slice a3 ks3.length c3, .int .i64 mn3, .int .i64 mx3] 25)) (Nat.lt_of_lt_of_le HBK3.out.lt hb11.size))
            have HWT3 := Lib.hid (NAt.later (al_below w11 (.cells #[.int .i64 op3, .slice ra3 rs3.length rc3, .string ⟨nm3.toArray⟩, .slice a3 ks3.length c3, .int .i64 mn3, .int .i64 mx3] 25)) _ _ (NAt.later hb11 _ _ HWT2.out))
            have HB11 := Lib.hid (HB10.out.trans (hb11.mono HB10.out.size))
            have HB12 := Lib.hid (HB11.out.trans ((al_below w11 (.cells #[.int .i64 op3, .slice ra3 rs3.length rc3, .string ⟨nm3.toArray⟩, .slice a3 ks3.length c3, .int .i64 mn3, .int .i64 mx3] 25)).mono HB11.out.size))
            have HZ3 := Lib.hid hz3
            obtain ⟨w12, hw12⟩ : ∃ w12, w11.alloc (.cells #[.int .i64 op3, .slice ra3 rs3.length rc3, .string ⟨nm3.toArray⟩, .slice a3 ks3.length c3, .int .i64 mn3, .int .i64 mx3] 25) = w12 := ⟨_, rfl⟩
            rw [hw12] at HT3 HBK4 HBK5 HWT3 HB12
            obtain ⟨p0, p1, p2, p3, p4, p5⟩ := bkn HBK5.out
            clear hT3 hb11 hz3 HB11 HB10 HBK3 HWT2
            go_wp2_with fail
            clear hw12
            refine (HCK.out _ _ HWT3.out (HK.out.below (HB9.out.trans (HB12.out.mono HB9.out.size)))).mono ?_
            rintro e w13 ⟨rfl, hb13⟩
            clear p0 p1 p2 p3 p4 p5
            obtain ⟨p0, p1, p2, p3, p4, p5⟩ := bkn (HBK5.out.on hb13 HBK5.out.lt)
            obtain ⟨q0, q1, q2, q3, q4, q5⟩ := bkn (HBK4.out.on hb13 HBK4.out.lt)
            have HT4 := Lib.hid (NAt.later hb13 _ _ HT3.out)
            have HWT4 := Lib.hid (NAt.later hb13 _ _ HWT3.out)
            have HB13 := Lib.hid (HB12.out.trans (hb13.mono HB12.out.size))
            clear hb13 HT3 HWT3 HB12 HBK4 HBK5
            by_cases hz : E = 0
            · subst hz
              obtain rfl := HZ3.out rfl
              go_wp2_with fail
              refine (HSM.out _ _ _ HT4.out HWT4.out).mono ?_
              rintro e w14 ⟨rfl, hb14⟩
              have HB14 := Lib.hid (HB13.out.trans (hb14.mono HB13.out.size))
              clear hb14
              go_wp2_with fail
              go_roundw
              case rel => exact ⟨2, by first | rfl | go_num, by omega, HB14⟩
              case measure => simp [intOf]
            · have z8 : ((E : Int) == 0) = false := by rw [beq_eq_false_iff_ne]; omega
              go_wp2_with fail
              go_roundw
              case rel => exact ⟨2, by first | rfl | go_num, by omega, HB13⟩
              case measure => simp [intOf]
          · go_wp2_with fail
            go_ret
            exact ⟨rfl, HBW.out⟩
    · have z5 : ((E2 : Int) == 0) = false := by rw [beq_eq_false_iff_ne]; omega
      subst hE1
      clear HO1 HO2
      go_wp2_with fail
      go_ret
      exact ⟨rfl, HB8.out⟩
  · have z5 : ((E1 : Int) == 0) = false := by rw [beq_eq_false_iff_ne]; omega
    clear HO1 HO2
    go_wp2_with fail
    go_ret
    exact ⟨rfl, HB8.out⟩
end Go.Proofs.YtpbdcghiabhliaaDoor
/-
  PatternJoins' walk at the arguments as they come in.
-/
namespace Go.Proofs.YtpbdcghiabhliaaDoor
open Go.ChangeShapes Go.WideShapes Go.ChangeAt Go.RowKit

set_option maxRecDepth 1000000 in
theorem joins_law {H : Type} {enc : TypeId × Value → H} {W : World} {base : Nat} {args : Array Value} {ds : List (DataW H)} {p : List MemPlace}
    (hval : ∀ (j : Nat) t v, (#[26, 26] : Array TypeId)[j]? = some t → args[j]? = some v → Value.okWide Tryd.prog W .any base t v)
    (hA : DataW.TrodAll enc Tryd.prog W 0 (fun _ => true) true [26, 26] args.toList ds p) {B : Prop} (_ : B) (hL : laidMetH Tryd.prog laidFour W) :
    Calls Tryd.prog 5 args W fun e w' => e = .returned (.bool true) ∧ Below W.heap.size W w' := by
  obtain ⟨v0, vs0, d0, ds0, p0, q0, hargs, rfl, rfl, h0, r0⟩ := trodAll_cons hA
  obtain ⟨v1, vs1, d1, ds1, p1, q1, rfl, rfl, rfl, h1, r1⟩ := trodAll_cons r0
  obtain ⟨rfl, rfl, rfl⟩ := trodAll_nil r1
  obtain rfl : args = #[v0, v1] := by cases args; simp_all
  obtain ⟨bs, hbs⟩ := open_bytes (hval 0 26 v0 rfl rfl) h0
  obtain ⟨bs2, hbs2⟩ := open_bytes (hval 1 26 v1 rfl rfl) h1
  exact joins_any v0 v1 bs bs2 W hbs.bs hbs2.bs (kp_of_laid hL).1

end Go.Proofs.YtpbdcghiabhliaaDoor
/-
  PatternJoins: for every input the call returns true and leaves its arguments alone; the variables that it reads are listed and tied to the program's text (the card).
-/
namespace Go.Proofs.YtpbdcghiabhliaaDoor
open Go.ChangeShapes Go.WideShapes Go.ChangeAt Go.RowKit
namespace JoinsRow

set_option maxRecDepth 1000000 in
theorem contract (H : Type) (enc : TypeId × Value → H) (W : World) (base : Nat) (args : Array Value) (ds gs : List (DataW H)) (before : List MemPlace)
    (hval : ∀ (j : Nat) t v, Tryd.f5.params[j]? = some t → args[j]? = some v → Value.okWide Tryd.prog W .any base t v)
    (hW : DataW.Whole enc Tryd.prog Tryd.f5.params.toList Rows.patternJoinsSpec.vars false W args.toList ds gs before)
    (hbound : (DataW.weightsEach Tryd.prog (Tryd.f5.params.toList ++ (OpenSpec.ofChange Rows.patternJoinsSpec).bare.plain.varTypes Tryd.prog) (ds ++ gs)).all (· ≤ reachBytes) = true)
    (hL : laidMetH Tryd.prog Rows.patternJoinsRow.laid W) :
    Calls Tryd.prog 5 args W fun e W' => ∃ v, e = .returned v ∧ Rows.patternJoinsSpec.post enc Tryd.prog Tryd.f5 false true false false W args v W' := by
  have hW' := hW
  obtain ⟨p, q, hA, hV, rfl, _, _⟩ := hW
  obtain ⟨rfl, rfl⟩ := trodVars_none hV
  rw [List.append_nil] at hbound
  rw [Tryd.params5] at hA hval
  refine (joins_law hval hA hbound hL).mono fun e W' ⟨he, hb⟩ => ?_
  subst he
  refine ⟨_, rfl, post_true hW' rfl ?_ rfl ?_ ?_ ?_ hb⟩
  · rw [Tryd.params5]
    intro t ht
    simp only [List.mem_cons, List.not_mem_nil, or_false] at ht
    have hs : decide (26 < Tryd.prog.types.size) = true ∧ decide (26 < Tryd.prog.types.size) = true := ⟨by kernel_rfl, by kernel_rfl⟩
    obtain ⟨s0, s1⟩ := hs
    rcases ht with rfl | rfl
    · exact of_decide_eq_true s0
    · exact of_decide_eq_true s1
  all_goals
    obtain ⟨v0, vs0, d0, ds0, p0, q0, hargs, rfl, rfl, h0, r0⟩ := trodAll_cons hA
    obtain ⟨v1, vs1, d1, ds1, p1, q1, _, rfl, rfl, h1, r1⟩ := trodAll_cons r0
    obtain ⟨_, rfl, rfl⟩ := trodAll_nil r1
    rfl

theorem laid_met (os : Os) : laidMet Tryd.prog Rows.patternJoinsRow.laid ((laidWorld os).forCall (fun _ _ => 0) ⟨#[], #[.slice none 0 0, .slice none 0 0], []⟩).memory :=
  laidMet_of_run' 8 (by kernel_rfl) (by kernel_rfl)
theorem reads (os : Os) {H : Type} (enc : TypeId × Value → H) : ∃ places, DataW.whole enc Tryd.prog ((laidWorld os).forCall (fun _ _ => 0) ⟨#[], #[.slice none 0 0, .slice none 0 0], []⟩).memory Tryd.f5.params.toList Rows.patternJoinsSpec.vars false (#[.slice none 0 0, .slice none 0 0] : Array Value).toList 8 = some ([.nil, .nil], [], places) :=
  ⟨[], by kernel_rfl⟩

set_option maxRecDepth 100000 in
theorem lifted (os : Os) (started : os.Started) (H : Type) (enc : TypeId × Value → H) (F : Stop.Interp) :
    ReturnsInHanded {} Tryd.checked os 5 .any ((OpenSpec.ofChange Rows.patternJoinsSpec).preRow enc Tryd.prog Tryd.f5 Rows.patternJoinsRow.domain false Rows.patternJoinsRow.laid) (((OpenSpec.ofChange Rows.patternJoinsSpec).at F).post enc Tryd.prog Tryd.f5 false true false false) := by
  obtain ⟨places, hx⟩ := reads os enc
  refine returnsInHanded_of_row (C := Tryd.checked) (s := (OpenSpec.ofChange Rows.patternJoinsSpec)) own started (by kernel_rfl) Tryd.func5
    (witness_row_at (enc := enc) (C := Tryd.checked) false (laidWorld os) #[.slice none 0 0, .slice none 0 0] rfl (by kernel_rfl) (by kernel_rfl) (by kernel_rfl)
      (OpenSpec.preRow_of_cond 8 hx (by kernel_rfl) (fun k hk => by cases hk) (by kernel_rfl) (laid_met os))) ?_
  intro W base args ds gs before hval hW _ _ hsz hL _ _
  exact contract H enc W base args ds gs before hval hW hsz hL

theorem said : Rows.PatternJoinsSaid :=
  OpenClaim.holds_of_cond 5 Tryd.f5 rfl rfl rfl rfl rfl rfl rfl ⟨rfl, rfl, rfl, rfl, rfl⟩ rfl rfl rfl rfl rfl (by kernel_rfl) Tryd.func5 (by kernel_rfl)
    (of_decide_eq_true (by kernel_rfl)) (by unfold Func.isWrapper; first | (rw [if_pos (by decide +kernel)]; kernel_rfl) | (rw [if_neg (by decide +kernel)]; exact ⟨rfl, rfl⟩))
    (fun os started H enc _ F => by rw [OpenClaim.pre_eq_preRow]; exact lifted os started H enc F)

theorem plain (f : FuncId) (fn : Func) (hf : Tryd.pinned.checked.prog.funcNamed "logtide/logtidelaw02.PatternJoins" = some f) (hfn : Tryd.pinned.checked.prog.funcs[f]? = some fn) :
    false = Tryd.pinned.checked.prog.looks [] ∧ ∀ (j : Nat) t, fn.params[j]? = some t → Tryd.pinned.checked.prog.wantsStandIn t = false := by
  obtain rfl : f = 5 := Option.some.inj ((show Tryd.prog.funcNamed "logtide/logtidelaw02.PatternJoins" = some 5 by kernel_rfl).symm.trans hf) |>.symm
  obtain rfl : fn = Tryd.f5 := (Option.some.inj (Tryd.func5.symm.trans hfn)).symm
  refine ⟨by kernel_rfl, fun j t ht => ?_⟩
  rw [Tryd.params5] at ht
  have hm := Array.mem_of_getElem? ht
  simp only [List.mem_toArray, List.mem_cons, List.not_mem_nil, or_false] at hm
  rcases hm with rfl | rfl
  · exact (show Tryd.prog.wantsStandIn 26 = false by kernel_rfl)
  · exact (show Tryd.prog.wantsStandIn 26 = false by kernel_rfl)

end JoinsRow

/-- THE CARD. -/
theorem joins_card : Rows.PatternJoinsCardSaid :=
  Claim7.holds_tied_plain_at .later [] _ _ _ _ JoinsRow.said (fun _ h => by cases h) (by kernel_rfl) (fun _ h => by cases h) patternJoins_row_tie rfl ⟨rfl, rfl⟩ (by kernel_rfl) rfl JoinsRow.plain (by kernel_rfl)

#print axioms joins_card
end Go.Proofs.YtpbdcghiabhliaaDoor

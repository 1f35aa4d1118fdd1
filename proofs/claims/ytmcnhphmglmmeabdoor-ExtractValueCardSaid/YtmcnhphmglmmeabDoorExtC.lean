/-
  The value of a name in an event: package extract (a map of functions) and its reference.
-/
import Derived.Test.YtmcnhphmglmmeabDoorExtB
import Derived.Test.YtmcnhphmglmmeabDoorMapF
import Derived.Test.YtmcnhphmglmmeabDoorFlds
import Derived.StringKeys
namespace Go.Proofs.YtmcnhphmglmmeabDoor
open Go.RowKit Go.Maps Go.ChangeMaps

structure Ev where
  host : Nat
  file : Nat
  time : Nat
  weight : Nat
  trace : List UInt8
  stream : List UInt8
  flds : List Fd
structure EvOk (x : Ev) : Prop where
  h1 : x.host ≤ 1000000000000000000
  h2 : x.file ≤ 1000000000000000000
  h3 : x.time ≤ 1000000000000000000
  h4 : x.weight ≤ 1000000000000000000
  h5 : x.trace.length ≤ 1000
  h6 : x.stream.length ≤ 1000
  h7 : x.flds.length ≤ 1000
  h8 : ∀ f ∈ x.flds, f.2.length ≤ 1000
/-- The event as a value. -/
def EvV (w : World) (v : Value) (x : Ev) : Prop :=
  ∃ (a b : Int) (la : Option Addr) (ln lc : Nat) (fa : Option Addr) (fc : Nat), v = .agg #[.int .i64 x.host, .int .i64 x.file, .int .i64 a, .int .i64 b, .slice la ln lc, .int .i64 x.time, .int .i64 x.weight, .string ⟨x.trace.toArray⟩, .string ⟨x.stream.toArray⟩, .slice fa x.flds.length fc] ∧ FI w (.slice fa x.flds.length fc) x.flds
theorem EvV.later {w w' : World} {v : Value} {x : Ev} (h : EvV w v x) (hb : Below w.heap.size w w') : EvV w' v x := by
  obtain ⟨a, b, la, ln, lc, fa, fc, e, hf⟩ := h
  exact ⟨a, b, la, ln, lc, fa, fc, e, hf.later hb⟩

def nHost : List UInt8 := [64, 104, 111, 115, 116]
def nFile : List UInt8 := [64, 102, 105, 108, 101]
def nTime : List UInt8 := [64, 116, 105, 109, 101]
def nWeight : List UInt8 := [64, 119, 101, 105, 103, 104, 116]
def nTrace : List UInt8 := [64, 116, 114, 97, 99, 101]
def nStream : List UInt8 := [64, 115, 116, 114, 101, 97, 109]
def valL (x : Ev) (nm : List UInt8) : Option (List UInt8) :=
  if nm = nHost then some (Lib.decDigits x.host) else if nm = nFile then some (Lib.decDigits x.file) else if nm = nTime then some (Lib.decDigits x.time) else if nm = nWeight then some (Lib.decDigits x.weight) else if nm = nTrace then some x.trace else if nm = nStream then some x.stream else gv x.flds nm

theorem lawS : Keyed Tryd.prog 9 := string_keyed Tryd.underlying9
theorem zeroFn (w : World) : (zeroValue 48).run Tryd.prog w = .ok .nilFunc w := by kernel_rfl
def fnD (f : Nat) : DataW Unit := .lit (.int .i64 f)
def spD : DataW Unit := ((((((DataW.map []).put (.string nHost) (fnD 28)).put (.string nFile) (fnD 30)).put (.string nTime) (fnD 31)).put (.string nWeight) (fnD 32)).put (.string nTrace) (fnD 33)).put (.string nStream) (fnD 34)
theorem sp_host : Maps.has spD (.string nHost) = true ∧ spD.atKey (.string nHost) .nil = fnD 28 := ⟨by kernel_rfl, by kernel_rfl⟩
theorem sp_file : Maps.has spD (.string nFile) = true ∧ spD.atKey (.string nFile) .nil = fnD 30 := ⟨by kernel_rfl, by kernel_rfl⟩
theorem sp_time : Maps.has spD (.string nTime) = true ∧ spD.atKey (.string nTime) .nil = fnD 31 := ⟨by kernel_rfl, by kernel_rfl⟩
theorem sp_weight : Maps.has spD (.string nWeight) = true ∧ spD.atKey (.string nWeight) .nil = fnD 32 := ⟨by kernel_rfl, by kernel_rfl⟩
theorem sp_trace : Maps.has spD (.string nTrace) = true ∧ spD.atKey (.string nTrace) .nil = fnD 33 := ⟨by kernel_rfl, by kernel_rfl⟩
theorem sp_stream : Maps.has spD (.string nStream) = true ∧ spD.atKey (.string nStream) .nil = fnD 34 := ⟨by kernel_rfl, by kernel_rfl⟩
theorem sp_other {nm : List UInt8} (h1 : nm ≠ nHost) (h2 : nm ≠ nFile) (h3 : nm ≠ nTime) (h4 : nm ≠ nWeight) (h5 : nm ≠ nTrace) (h6 : nm ≠ nStream) : Maps.has spD (.string nm) = false := by
  have k : ∀ {b : List UInt8}, nm ≠ b → Lit.string nm ≠ Lit.string b := fun h e => h (by injection e)
  unfold spD
  rw [has_put_other (k h6), has_put_other (k h5), has_put_other (k h4), has_put_other (k h3), has_put_other (k h2), has_put_other (k h1)]
  rfl

theorem special_any (w : World) : Calls Tryd.prog 20 #[] w fun e w' => e = .returned (.map (some w.heap.size)) ∧ w'.ownsMap Tryd.prog 9 fnElem w.heap.size 6 spD ∧ Below w.heap.size w w' := by
  have hmm := @run_makeMap Tryd.prog
  obtain ⟨w1, r1, o1, g1⟩ := (World.ownsMap_made w Tryd.prog 9 fnElem).update lawS Tryd.underlying50 (by unfold maxLen; decide) (key := .string ⟨#[64, 104, 111, 115, 116]⟩) (kl := .string nHost) (Go.WideMaps.keyOf_string_mk Tryd.underlying9 (by unfold maxLen; decide)) (val := .func (.func 28) #[] #[]) (d := fnD 28) (ps := []) rfl
  obtain ⟨w2, r2, o2, g2⟩ := o1.update lawS Tryd.underlying50 (by unfold maxLen; decide) (key := .string ⟨#[64, 102, 105, 108, 101]⟩) (kl := .string nFile) (Go.WideMaps.keyOf_string_mk Tryd.underlying9 (by unfold maxLen; decide)) (val := .func (.func 30) #[] #[]) (d := fnD 30) (ps := []) rfl
  obtain ⟨w3, r3, o3, g3⟩ := o2.update lawS Tryd.underlying50 (by unfold maxLen; decide) (key := .string ⟨#[64, 116, 105, 109, 101]⟩) (kl := .string nTime) (Go.WideMaps.keyOf_string_mk Tryd.underlying9 (by unfold maxLen; decide)) (val := .func (.func 31) #[] #[]) (d := fnD 31) (ps := []) rfl
  obtain ⟨w4, r4, o4, g4⟩ := o3.update lawS Tryd.underlying50 (by unfold maxLen; decide) (key := .string ⟨#[64, 119, 101, 105, 103, 104, 116]⟩) (kl := .string nWeight) (Go.WideMaps.keyOf_string_mk Tryd.underlying9 (by unfold maxLen; decide)) (val := .func (.func 32) #[] #[]) (d := fnD 32) (ps := []) rfl
  obtain ⟨w5, r5, o5, g5⟩ := o4.update lawS Tryd.underlying50 (by unfold maxLen; decide) (key := .string ⟨#[64, 116, 114, 97, 99, 101]⟩) (kl := .string nTrace) (Go.WideMaps.keyOf_string_mk Tryd.underlying9 (by unfold maxLen; decide)) (val := .func (.func 33) #[] #[]) (d := fnD 33) (ps := []) rfl
  obtain ⟨w6, r6, o6, g6⟩ := o5.update lawS Tryd.underlying50 (by unfold maxLen; decide) (key := .string ⟨#[64, 115, 116, 114, 101, 97, 109]⟩) (kl := .string nStream) (Go.WideMaps.keyOf_string_mk Tryd.underlying9 (by unfold maxLen; decide)) (val := .func (.func 34) #[] #[]) (d := fnD 34) (ps := []) rfl
  have b0 : Below w.heap.size w (w.alloc (.map #[] 0)) := (Below.refl _ _).alloc (Nat.le_refl _) _
  have b1 := b0.grown g1 b0.size (fun k hk => by cases hk; exact Nat.le_refl _)
  have b2 := b1.grown g2 b1.size (fun k hk => by cases hk; exact Nat.le_refl _)
  have b3 := b2.grown g3 b2.size (fun k hk => by cases hk; exact Nat.le_refl _)
  have b4 := b3.grown g4 b3.size (fun k hk => by cases hk; exact Nat.le_refl _)
  have b5 := b4.grown g5 b4.size (fun k hk => by cases hk; exact Nat.le_refl _)
  have b6 := b5.grown g6 b5.size (fun k hk => by cases hk; exact Nat.le_refl _)
  have HF : Hid (w6.ownsMap Tryd.prog 9 fnElem w.heap.size 6 spD ∧ Below w.heap.size w w6) := And.intro o6 b6
  clear o1 o2 o3 o4 o5 o6 g1 g2 g3 g4 g5 g6 b0 b1 b2 b3 b4 b5 b6
  go_enter Tryd.func20, Tryd.ntmps20
  go_wp2_with fail
  go_ret
  exact ⟨rfl, HF.out.1, HF.out.2⟩

theorem ret_sb {a b : List UInt8} {c d : Bool} (h : a = b) (k : c = d) : Ending.returned (.tuple #[.string ⟨a.toArray⟩, .bool c]) = .returned (.tuple #[.string ⟨b.toArray⟩, .bool d]) := by rw [h, k]
/-- The functions of the map. -/
theorem spc1_any (v : Value) (x : Ev) (w : World) (hv : EvV w v x) (ho : EvOk x) (hp : Pow w) : Calls Tryd.prog 28 #[v] w fun e w' => e = .returned (.string ⟨(Lib.decDigits x.host).toArray⟩) ∧ Below w.heap.size w w' := by
  obtain ⟨a, b, la, ln, lc, fa, fc, rfl, hf⟩ := hv
  have HI := Lib.hid fun W (hb : Below w.heap.size w W) => itoa_any x.host W ho.h1 (hp.below hb)
  clear hf ho hp
  go_enter Tryd.func28, Tryd.ntmps28
  go_wp2_with fail
  refine (HI.out _ ((Below.refl _ _).alloc (Nat.le_refl _) _)).mono ?_
  rintro e w1 ⟨rfl, hb1⟩
  go_wp2_with fail
  go_ret
  exact ⟨rfl, ((Below.refl _ w).alloc (Nat.le_refl _) _).trans (hb1.mono (by simp))⟩
theorem spc2_any (v : Value) (x : Ev) (w : World) (hv : EvV w v x) (ho : EvOk x) (hp : Pow w) : Calls Tryd.prog 30 #[v] w fun e w' => e = .returned (.string ⟨(Lib.decDigits x.file).toArray⟩) ∧ Below w.heap.size w w' := by
  obtain ⟨a, b, la, ln, lc, fa, fc, rfl, hf⟩ := hv
  have HI := Lib.hid fun W (hb : Below w.heap.size w W) => itoa_any x.file W ho.h2 (hp.below hb)
  clear hf ho hp
  go_enter Tryd.func30, Tryd.ntmps30
  go_wp2_with fail
  refine (HI.out _ ((Below.refl _ _).alloc (Nat.le_refl _) _)).mono ?_
  rintro e w1 ⟨rfl, hb1⟩
  go_wp2_with fail
  go_ret
  exact ⟨rfl, ((Below.refl _ w).alloc (Nat.le_refl _) _).trans (hb1.mono (by simp))⟩
theorem spc3_any (v : Value) (x : Ev) (w : World) (hv : EvV w v x) (ho : EvOk x) (hp : Pow w) : Calls Tryd.prog 31 #[v] w fun e w' => e = .returned (.string ⟨(Lib.decDigits x.time).toArray⟩) ∧ Below w.heap.size w w' := by
  obtain ⟨a, b, la, ln, lc, fa, fc, rfl, hf⟩ := hv
  have HI := Lib.hid fun W (hb : Below w.heap.size w W) => itoa_any x.time W ho.h3 (hp.below hb)
  clear hf ho hp
  go_enter Tryd.func31, Tryd.ntmps31
  go_wp2_with fail
  refine (HI.out _ ((Below.refl _ _).alloc (Nat.le_refl _) _)).mono ?_
  rintro e w1 ⟨rfl, hb1⟩
  go_wp2_with fail
  go_ret
  exact ⟨rfl, ((Below.refl _ w).alloc (Nat.le_refl _) _).trans (hb1.mono (by simp))⟩
theorem spc4_any (v : Value) (x : Ev) (w : World) (hv : EvV w v x) (ho : EvOk x) (hp : Pow w) : Calls Tryd.prog 32 #[v] w fun e w' => e = .returned (.string ⟨(Lib.decDigits x.weight).toArray⟩) ∧ Below w.heap.size w w' := by
  obtain ⟨a, b, la, ln, lc, fa, fc, rfl, hf⟩ := hv
  have HI := Lib.hid fun W (hb : Below w.heap.size w W) => itoa_any x.weight W ho.h4 (hp.below hb)
  clear hf ho hp
  go_enter Tryd.func32, Tryd.ntmps32
  go_wp2_with fail
  refine (HI.out _ ((Below.refl _ _).alloc (Nat.le_refl _) _)).mono ?_
  rintro e w1 ⟨rfl, hb1⟩
  go_wp2_with fail
  go_ret
  exact ⟨rfl, ((Below.refl _ w).alloc (Nat.le_refl _) _).trans (hb1.mono (by simp))⟩
theorem spc5_any (v : Value) (x : Ev) (w : World) (hv : EvV w v x) : Calls Tryd.prog 33 #[v] w fun e w' => e = .returned (.string ⟨x.trace.toArray⟩) ∧ Below w.heap.size w w' := by
  obtain ⟨a, b, la, ln, lc, fa, fc, rfl, hf⟩ := hv
  clear hf
  go_enter Tryd.func33, Tryd.ntmps33
  go_wp2_with fail
  go_ret
  exact ⟨rfl, (Below.refl _ w).alloc (Nat.le_refl _) _⟩
theorem spc6_any (v : Value) (x : Ev) (w : World) (hv : EvV w v x) : Calls Tryd.prog 34 #[v] w fun e w' => e = .returned (.string ⟨x.stream.toArray⟩) ∧ Below w.heap.size w w' := by
  obtain ⟨a, b, la, ln, lc, fa, fc, rfl, hf⟩ := hv
  clear hf
  go_enter Tryd.func34, Tryd.ntmps34
  go_wp2_with fail
  go_ret
  exact ⟨rfl, (Below.refl _ w).alloc (Nat.le_refl _) _⟩
theorem eget_any (v : Value) (x : Ev) (nm : List UInt8) (w : World) (hv : EvV w v x) (ho : EvOk x) : Calls Tryd.prog 21 #[v, .string ⟨nm.toArray⟩] w (GetPost w (gv x.flds nm)) := by
  obtain ⟨a, b, la, ln, lc, fa, fc, rfl, hf⟩ := hv
  have HG := Lib.hid fun W (hb : Below w.heap.size w W) => pGet_any _ x.flds nm W (hf.later hb) ho.h7
  clear hf ho
  go_enter Tryd.func21, Tryd.ntmps21
  go_wp2_with fail
  refine (HG.out _ ((Below.refl _ _).alloc (Nat.le_refl _) _)).mono ?_
  rintro e w1 ⟨rfl, hb1⟩
  go_wp2_with fail
  go_ret2
  exact ⟨rfl, ((Below.refl _ w).alloc (Nat.le_refl _) _).trans (hb1.mono (by simp))⟩

theorem look_fn {w : World} {b : Nat} (h : w.ownsMap Tryd.prog 9 fnElem b 6 spD) (nm : List UInt8) (hn : nm.length ≤ 1000000) :
    ∃ v ps, (Instr.lookup 50 (.map (some b)) (.string ⟨nm.toArray⟩) true).run Tryd.prog w = .ok (.tuple #[v, .bool (Maps.has spD (.string nm))]) w ∧ fnElem v = some (spD.atKey (.string nm) .nil, ps) :=
  h.look_ok lawS Tryd.underlying50 (zeroFn w) (zd := .nil) (zp := []) rfl (key := .string ⟨nm.toArray⟩) (kl := .string nm) (by have := Go.WideMaps.keyOf_string_mk (P := Tryd.prog) (k := 9) Tryd.underlying9 (s := ⟨nm.toArray⟩) (by rw [ba_size]; unfold maxLen; omega); simpa using this)

end Go.Proofs.YtmcnhphmglmmeabDoor

/-
  Value and Number of package extract and of its reference.
-/
import Derived.Test.YtmcnhphmglmmeabDoorExtC
namespace Go.Proofs.YtmcnhphmglmmeabDoor
open Go.RowKit Go.Maps Go.ChangeMaps

theorem cell_in {w w1 : World} {cs : Array Value} {t : TypeId} (hb : Below (w.alloc (.cells cs t)).heap.size (w.alloc (.cells cs t)) w1) (i : Nat) {u : Value} (h : cs[i]? = some u) : w1.cell? ⟨w.heap.size, i, none⟩ = some u := by
  rw [hb.cell (p := ⟨w.heap.size, i, none⟩) (by simp)]
  simp [go_sem]
  exact h

set_option maxHeartbeats 1000000 in
theorem value_fn1 (v : Value) (x : Ev) (nm : List UInt8) (w : World) (hv : EvV w v x) (hn : nm.length ≤ 1000000) (hh : Maps.has spD (.string nm) = true) (hat : spD.atKey (.string nm) .nil = fnD 28) (S : List UInt8)
    (hc : ∀ W, Below w.heap.size w W → Calls Tryd.prog 28 #[v] W fun e w' => e = .returned (.string ⟨S.toArray⟩) ∧ Below W.heap.size W w') :
    Calls Tryd.prog 8 #[v, .string ⟨nm.toArray⟩] w (GetPost w (some S)) := by
  obtain ⟨a, b, la, ln, lc, fa, fc, rfl, hf⟩ := hv
  have HC := Lib.hid hc
  have hb0 : Below w.heap.size w (w.alloc (.cells #[.int .i64 x.host, .int .i64 x.file, .int .i64 a, .int .i64 b, .slice la ln lc, .int .i64 x.time, .int .i64 x.weight, .string ⟨x.trace.toArray⟩, .string ⟨x.stream.toArray⟩, .slice fa x.flds.length fc] 29)) := (Below.refl _ _).alloc (Nat.le_refl _) _
  have HB0 := Lib.hid hb0
  have hs : ∀ o, (w.alloc o).heap.size = w.heap.size + 1 := fun o => by simp
  clear hc hf hb0
  go_enter Tryd.func8, Tryd.ntmps8
  go_wp2_with fail
  refine (special_any _).mono ?_
  rintro e w1 ⟨rfl, ho, hb1⟩
  have hb2 := HB0.out.trans (hb1.mono (by simp))
  have HB2 := Lib.hid hb2
  have c0 := cell_in hb1 0 rfl
  have c1 := cell_in hb1 1 rfl
  have c2 := cell_in hb1 2 rfl
  have c3 := cell_in hb1 3 rfl
  have c4 := cell_in hb1 4 rfl
  have c5 := cell_in hb1 5 rfl
  have c6 := cell_in hb1 6 rfl
  have c7 := cell_in hb1 7 rfl
  have c8 := cell_in hb1 8 rfl
  have c9 := cell_in hb1 9 rfl
  rw [hs] at ho
  obtain ⟨u, ps, hlook, hu⟩ := look_fn ho nm hn
  rw [hat] at hu
  obtain rfl := fnElem_inv hu
  rw [hh] at hlook
  have HCC := Lib.hid (HC.out w1 hb2)
  clear ho hu hat hh hb1 hb2 hs HC HB0
  go_wp2_with fail
  refine HCC.out.mono ?_
  rintro e w2 ⟨rfl, hb3⟩
  go_wp2_with fail
  go_ret2
  exact ⟨rfl, HB2.out.trans (hb3.mono HB2.out.size)⟩

set_option maxHeartbeats 1000000 in
theorem value_fn2 (v : Value) (x : Ev) (nm : List UInt8) (w : World) (hv : EvV w v x) (hn : nm.length ≤ 1000000) (hh : Maps.has spD (.string nm) = true) (hat : spD.atKey (.string nm) .nil = fnD 30) (S : List UInt8)
    (hc : ∀ W, Below w.heap.size w W → Calls Tryd.prog 30 #[v] W fun e w' => e = .returned (.string ⟨S.toArray⟩) ∧ Below W.heap.size W w') :
    Calls Tryd.prog 8 #[v, .string ⟨nm.toArray⟩] w (GetPost w (some S)) := by
  obtain ⟨a, b, la, ln, lc, fa, fc, rfl, hf⟩ := hv
  have HC := Lib.hid hc
  have hb0 : Below w.heap.size w (w.alloc (.cells #[.int .i64 x.host, .int .i64 x.file, .int .i64 a, .int .i64 b, .slice la ln lc, .int .i64 x.time, .int .i64 x.weight, .string ⟨x.trace.toArray⟩, .string ⟨x.stream.toArray⟩, .slice fa x.flds.length fc] 29)) := (Below.refl _ _).alloc (Nat.le_refl _) _
  have HB0 := Lib.hid hb0
  have hs : ∀ o, (w.alloc o).heap.size = w.heap.size + 1 := fun o => by simp
  clear hc hf hb0
  go_enter Tryd.func8, Tryd.ntmps8
  go_wp2_with fail
  refine (special_any _).mono ?_
  rintro e w1 ⟨rfl, ho, hb1⟩
  have hb2 := HB0.out.trans (hb1.mono (by simp))
  have HB2 := Lib.hid hb2
  have c0 := cell_in hb1 0 rfl
  have c1 := cell_in hb1 1 rfl
  have c2 := cell_in hb1 2 rfl
  have c3 := cell_in hb1 3 rfl
  have c4 := cell_in hb1 4 rfl
  have c5 := cell_in hb1 5 rfl
  have c6 := cell_in hb1 6 rfl
  have c7 := cell_in hb1 7 rfl
  have c8 := cell_in hb1 8 rfl
  have c9 := cell_in hb1 9 rfl
  rw [hs] at ho
  obtain ⟨u, ps, hlook, hu⟩ := look_fn ho nm hn
  rw [hat] at hu
  obtain rfl := fnElem_inv hu
  rw [hh] at hlook
  have HCC := Lib.hid (HC.out w1 hb2)
  clear ho hu hat hh hb1 hb2 hs HC HB0
  go_wp2_with fail
  refine HCC.out.mono ?_
  rintro e w2 ⟨rfl, hb3⟩
  go_wp2_with fail
  go_ret2
  exact ⟨rfl, HB2.out.trans (hb3.mono HB2.out.size)⟩

set_option maxHeartbeats 1000000 in
theorem value_fn3 (v : Value) (x : Ev) (nm : List UInt8) (w : World) (hv : EvV w v x) (hn : nm.length ≤ 1000000) (hh : Maps.has spD (.string nm) = true) (hat : spD.atKey (.string nm) .nil = fnD 31) (S : List UInt8)
    (hc : ∀ W, Below w.heap.size w W → Calls Tryd.prog 31 #[v] W fun e w' => e = .returned (.string ⟨S.toArray⟩) ∧ Below W.heap.size W w') :
    Calls Tryd.prog 8 #[v, .string ⟨nm.toArray⟩] w (GetPost w (some S)) := by
  obtain ⟨a, b, la, ln, lc, fa, fc, rfl, hf⟩ := hv
  have HC := Lib.hid hc
  have hb0 : Below w.heap.size w (w.alloc (.cells #[.int .i64 x.host, .int .i64 x.file, .int .i64 a, .int .i64 b, .slice la ln lc, .int .i64 x.time, .int .i64 x.weight, .string ⟨x.trace.toArray⟩, .string ⟨x.stream.toArray⟩, .slice fa x.flds.length fc] 29)) := (Below.refl _ _).alloc (Nat.le_refl _) _
  have HB0 := Lib.hid hb0
  have hs : ∀ o, (w.alloc o).heap.size = w.heap.size + 1 := fun o => by simp
  clear hc hf hb0
  go_enter Tryd.func8, Tryd.ntmps8
  go_wp2_with fail
  refine (special_any _).mono ?_
  rintro e w1 ⟨rfl, ho, hb1⟩
  have hb2 := HB0.out.trans (hb1.mono (by simp))
  have HB2 := Lib.hid hb2
  have c0 := cell_in hb1 0 rfl
  have c1 := cell_in hb1 1 rfl
  have c2 := cell_in hb1 2 rfl
  have c3 := cell_in hb1 3 rfl
  have c4 := cell_in hb1 4 rfl
  have c5 := cell_in hb1 5 rfl
  have c6 := cell_in hb1 6 rfl
  have c7 := cell_in hb1 7 rfl
  have c8 := cell_in hb1 8 rfl
  have c9 := cell_in hb1 9 rfl
  rw [hs] at ho
  obtain ⟨u, ps, hlook, hu⟩ := look_fn ho nm hn
  rw [hat] at hu
  obtain rfl := fnElem_inv hu
  rw [hh] at hlook
  have HCC := Lib.hid (HC.out w1 hb2)
  clear ho hu hat hh hb1 hb2 hs HC HB0
  go_wp2_with fail
  refine HCC.out.mono ?_
  rintro e w2 ⟨rfl, hb3⟩
  go_wp2_with fail
  go_ret2
  exact ⟨rfl, HB2.out.trans (hb3.mono HB2.out.size)⟩

set_option maxHeartbeats 1000000 in
theorem value_fn4 (v : Value) (x : Ev) (nm : List UInt8) (w : World) (hv : EvV w v x) (hn : nm.length ≤ 1000000) (hh : Maps.has spD (.string nm) = true) (hat : spD.atKey (.string nm) .nil = fnD 32) (S : List UInt8)
    (hc : ∀ W, Below w.heap.size w W → Calls Tryd.prog 32 #[v] W fun e w' => e = .returned (.string ⟨S.toArray⟩) ∧ Below W.heap.size W w') :
    Calls Tryd.prog 8 #[v, .string ⟨nm.toArray⟩] w (GetPost w (some S)) := by
  obtain ⟨a, b, la, ln, lc, fa, fc, rfl, hf⟩ := hv
  have HC := Lib.hid hc
  have hb0 : Below w.heap.size w (w.alloc (.cells #[.int .i64 x.host, .int .i64 x.file, .int .i64 a, .int .i64 b, .slice la ln lc, .int .i64 x.time, .int .i64 x.weight, .string ⟨x.trace.toArray⟩, .string ⟨x.stream.toArray⟩, .slice fa x.flds.length fc] 29)) := (Below.refl _ _).alloc (Nat.le_refl _) _
  have HB0 := Lib.hid hb0
  have hs : ∀ o, (w.alloc o).heap.size = w.heap.size + 1 := fun o => by simp
  clear hc hf hb0
  go_enter Tryd.func8, Tryd.ntmps8
  go_wp2_with fail
  refine (special_any _).mono ?_
  rintro e w1 ⟨rfl, ho, hb1⟩
  have hb2 := HB0.out.trans (hb1.mono (by simp))
  have HB2 := Lib.hid hb2
  have c0 := cell_in hb1 0 rfl
  have c1 := cell_in hb1 1 rfl
  have c2 := cell_in hb1 2 rfl
  have c3 := cell_in hb1 3 rfl
  have c4 := cell_in hb1 4 rfl
  have c5 := cell_in hb1 5 rfl
  have c6 := cell_in hb1 6 rfl
  have c7 := cell_in hb1 7 rfl
  have c8 := cell_in hb1 8 rfl
  have c9 := cell_in hb1 9 rfl
  rw [hs] at ho
  obtain ⟨u, ps, hlook, hu⟩ := look_fn ho nm hn
  rw [hat] at hu
  obtain rfl := fnElem_inv hu
  rw [hh] at hlook
  have HCC := Lib.hid (HC.out w1 hb2)
  clear ho hu hat hh hb1 hb2 hs HC HB0
  go_wp2_with fail
  refine HCC.out.mono ?_
  rintro e w2 ⟨rfl, hb3⟩
  go_wp2_with fail
  go_ret2
  exact ⟨rfl, HB2.out.trans (hb3.mono HB2.out.size)⟩

set_option maxHeartbeats 1000000 in
theorem value_fn5 (v : Value) (x : Ev) (nm : List UInt8) (w : World) (hv : EvV w v x) (hn : nm.length ≤ 1000000) (hh : Maps.has spD (.string nm) = true) (hat : spD.atKey (.string nm) .nil = fnD 33) (S : List UInt8)
    (hc : ∀ W, Below w.heap.size w W → Calls Tryd.prog 33 #[v] W fun e w' => e = .returned (.string ⟨S.toArray⟩) ∧ Below W.heap.size W w') :
    Calls Tryd.prog 8 #[v, .string ⟨nm.toArray⟩] w (GetPost w (some S)) := by
  obtain ⟨a, b, la, ln, lc, fa, fc, rfl, hf⟩ := hv
  have HC := Lib.hid hc
  have hb0 : Below w.heap.size w (w.alloc (.cells #[.int .i64 x.host, .int .i64 x.file, .int .i64 a, .int .i64 b, .slice la ln lc, .int .i64 x.time, .int .i64 x.weight, .string ⟨x.trace.toArray⟩, .string ⟨x.stream.toArray⟩, .slice fa x.flds.length fc] 29)) := (Below.refl _ _).alloc (Nat.le_refl _) _
  have HB0 := Lib.hid hb0
  have hs : ∀ o, (w.alloc o).heap.size = w.heap.size + 1 := fun o => by simp
  clear hc hf hb0
  go_enter Tryd.func8, Tryd.ntmps8
  go_wp2_with fail
  refine (special_any _).mono ?_
  rintro e w1 ⟨rfl, ho, hb1⟩
  have hb2 := HB0.out.trans (hb1.mono (by simp))
  have HB2 := Lib.hid hb2
  have c0 := cell_in hb1 0 rfl
  have c1 := cell_in hb1 1 rfl
  have c2 := cell_in hb1 2 rfl
  have c3 := cell_in hb1 3 rfl
  have c4 := cell_in hb1 4 rfl
  have c5 := cell_in hb1 5 rfl
  have c6 := cell_in hb1 6 rfl
  have c7 := cell_in hb1 7 rfl
  have c8 := cell_in hb1 8 rfl
  have c9 := cell_in hb1 9 rfl
  rw [hs] at ho
  obtain ⟨u, ps, hlook, hu⟩ := look_fn ho nm hn
  rw [hat] at hu
  obtain rfl := fnElem_inv hu
  rw [hh] at hlook
  have HCC := Lib.hid (HC.out w1 hb2)
  clear ho hu hat hh hb1 hb2 hs HC HB0
  go_wp2_with fail
  refine HCC.out.mono ?_
  rintro e w2 ⟨rfl, hb3⟩
  go_wp2_with fail
  go_ret2
  exact ⟨rfl, HB2.out.trans (hb3.mono HB2.out.size)⟩

set_option maxHeartbeats 1000000 in
theorem value_fn6 (v : Value) (x : Ev) (nm : List UInt8) (w : World) (hv : EvV w v x) (hn : nm.length ≤ 1000000) (hh : Maps.has spD (.string nm) = true) (hat : spD.atKey (.string nm) .nil = fnD 34) (S : List UInt8)
    (hc : ∀ W, Below w.heap.size w W → Calls Tryd.prog 34 #[v] W fun e w' => e = .returned (.string ⟨S.toArray⟩) ∧ Below W.heap.size W w') :
    Calls Tryd.prog 8 #[v, .string ⟨nm.toArray⟩] w (GetPost w (some S)) := by
  obtain ⟨a, b, la, ln, lc, fa, fc, rfl, hf⟩ := hv
  have HC := Lib.hid hc
  have hb0 : Below w.heap.size w (w.alloc (.cells #[.int .i64 x.host, .int .i64 x.file, .int .i64 a, .int .i64 b, .slice la ln lc, .int .i64 x.time, .int .i64 x.weight, .string ⟨x.trace.toArray⟩, .string ⟨x.stream.toArray⟩, .slice fa x.flds.length fc] 29)) := (Below.refl _ _).alloc (Nat.le_refl _) _
  have HB0 := Lib.hid hb0
  have hs : ∀ o, (w.alloc o).heap.size = w.heap.size + 1 := fun o => by simp
  clear hc hf hb0
  go_enter Tryd.func8, Tryd.ntmps8
  go_wp2_with fail
  refine (special_any _).mono ?_
  rintro e w1 ⟨rfl, ho, hb1⟩
  have hb2 := HB0.out.trans (hb1.mono (by simp))
  have HB2 := Lib.hid hb2
  have c0 := cell_in hb1 0 rfl
  have c1 := cell_in hb1 1 rfl
  have c2 := cell_in hb1 2 rfl
  have c3 := cell_in hb1 3 rfl
  have c4 := cell_in hb1 4 rfl
  have c5 := cell_in hb1 5 rfl
  have c6 := cell_in hb1 6 rfl
  have c7 := cell_in hb1 7 rfl
  have c8 := cell_in hb1 8 rfl
  have c9 := cell_in hb1 9 rfl
  rw [hs] at ho
  obtain ⟨u, ps, hlook, hu⟩ := look_fn ho nm hn
  rw [hat] at hu
  obtain rfl := fnElem_inv hu
  rw [hh] at hlook
  have HCC := Lib.hid (HC.out w1 hb2)
  clear ho hu hat hh hb1 hb2 hs HC HB0
  go_wp2_with fail
  refine HCC.out.mono ?_
  rintro e w2 ⟨rfl, hb3⟩
  go_wp2_with fail
  go_ret2
  exact ⟨rfl, HB2.out.trans (hb3.mono HB2.out.size)⟩

set_option maxHeartbeats 1000000 in
theorem value_other (v : Value) (x : Ev) (nm : List UInt8) (w : World) (hv : EvV w v x) (ho : EvOk x) (hn : nm.length ≤ 1000000) (hh : Maps.has spD (.string nm) = false) :
    Calls Tryd.prog 8 #[v, .string ⟨nm.toArray⟩] w (GetPost w (gv x.flds nm)) := by
  have HV := Lib.hid hv
  obtain ⟨a, b, la, ln, lc, fa, fc, rfl, hf⟩ := hv
  have HO := Lib.hid ho
  have hb0 : Below w.heap.size w (w.alloc (.cells #[.int .i64 x.host, .int .i64 x.file, .int .i64 a, .int .i64 b, .slice la ln lc, .int .i64 x.time, .int .i64 x.weight, .string ⟨x.trace.toArray⟩, .string ⟨x.stream.toArray⟩, .slice fa x.flds.length fc] 29)) := (Below.refl _ _).alloc (Nat.le_refl _) _
  have HB0 := Lib.hid hb0
  have hs : ∀ o, (w.alloc o).heap.size = w.heap.size + 1 := fun o => by simp
  clear ho hf hb0
  go_enter Tryd.func8, Tryd.ntmps8
  go_wp2_with fail
  refine (special_any _).mono ?_
  rintro e w1 ⟨rfl, ho, hb1⟩
  have hb2 := HB0.out.trans (hb1.mono (by simp))
  have HB2 := Lib.hid hb2
  have c0 := cell_in hb1 0 rfl
  have c1 := cell_in hb1 1 rfl
  have c2 := cell_in hb1 2 rfl
  have c3 := cell_in hb1 3 rfl
  have c4 := cell_in hb1 4 rfl
  have c5 := cell_in hb1 5 rfl
  have c6 := cell_in hb1 6 rfl
  have c7 := cell_in hb1 7 rfl
  have c8 := cell_in hb1 8 rfl
  have c9 := cell_in hb1 9 rfl
  rw [hs] at ho
  obtain ⟨u, ps, hlook, hu⟩ := look_fn ho nm hn
  rw [hh] at hlook
  have HE := Lib.hid (eget_any _ x nm w1 (HV.out.later hb2) HO.out)
  clear ho hu hh hb1 hb2 hs HB0 HV HO
  go_wp2_with fail
  refine HE.out.mono ?_
  rintro e w2 ⟨rfl, hb3⟩
  go_wp2_with fail
  go_ret2
  exact ⟨rfl, HB2.out.trans (hb3.mono HB2.out.size)⟩

theorem value_any (v : Value) (x : Ev) (nm : List UInt8) (w : World) (hp : Pow w) (hv : EvV w v x) (ho : EvOk x) (hn : nm.length ≤ 1000000) :
    Calls Tryd.prog 8 #[v, .string ⟨nm.toArray⟩] w (GetPost w (valL x nm)) := by
  unfold valL
  by_cases h1 : nm = nHost
  · subst h1
    rw [if_pos rfl]
    exact value_fn1 v x _ w hv hn sp_host.1 sp_host.2 _ fun W hb => spc1_any v x W (hv.later hb) ho (hp.below hb)
  rw [if_neg h1]
  by_cases h2 : nm = nFile
  · subst h2
    rw [if_pos rfl]
    exact value_fn2 v x _ w hv hn sp_file.1 sp_file.2 _ fun W hb => spc2_any v x W (hv.later hb) ho (hp.below hb)
  rw [if_neg h2]
  by_cases h3 : nm = nTime
  · subst h3
    rw [if_pos rfl]
    exact value_fn3 v x _ w hv hn sp_time.1 sp_time.2 _ fun W hb => spc3_any v x W (hv.later hb) ho (hp.below hb)
  rw [if_neg h3]
  by_cases h4 : nm = nWeight
  · subst h4
    rw [if_pos rfl]
    exact value_fn4 v x _ w hv hn sp_weight.1 sp_weight.2 _ fun W hb => spc4_any v x W (hv.later hb) ho (hp.below hb)
  rw [if_neg h4]
  by_cases h5 : nm = nTrace
  · subst h5
    rw [if_pos rfl]
    exact value_fn5 v x _ w hv hn sp_trace.1 sp_trace.2 _ fun W hb => spc5_any v x W (hv.later hb)
  rw [if_neg h5]
  by_cases h6 : nm = nStream
  · subst h6
    rw [if_pos rfl]
    exact value_fn6 v x _ w hv hn sp_stream.1 sp_stream.2 _ fun W hb => spc6_any v x W (hv.later hb)
  rw [if_neg h6]
  exact value_other v x nm w hv ho hn (sp_other h1 h2 h3 h4 h5 h6)

end Go.Proofs.YtmcnhphmglmmeabDoor

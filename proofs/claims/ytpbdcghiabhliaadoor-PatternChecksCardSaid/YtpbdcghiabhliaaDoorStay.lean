/-
  THE ROW'S LAST STEP, WHATEVER THE ARGUMENTS' TYPES: what a call leaves alone below the heap's old end reads behind it as it read before.
-/
import Derived.Test.YtpbdcghiabhliaaDoorLaid
import Derived.ChangeStays
import Derived.ChangeBears
import Derived.Below
namespace Go.Proofs.YtpbdcghiabhliaaDoor
open Go.ChangeShapes Go.WideShapes Go.ChangeAt Go.RowKit

theorem stay_laid : laidOutB Tryd.prog = true := by kernel_rfl
theorem stay_maps : mapsRowed Tryd.prog = true := by kernel_rfl
theorem stay_kids : Kids Tryd.prog (· < Tryd.prog.types.size) := kids_rows stay_laid stay_maps
def slicesSized (P : Program) : Bool := (List.range P.types.size).all fun t => match P.underlying t with | some (.slice e) => decide (0 < P.cellsOf e) | _ => true
theorem stay_sized : slicesSized Tryd.prog = true := by kernel_rfl
theorem stay_pos {t e : TypeId} (ht : t < Tryd.prog.types.size) (h : Tryd.prog.underlying t = some (.slice e)) : 0 < Tryd.prog.cellsOf e := by
  have := (List.all_eq_true.1 stay_sized) t (List.mem_range.2 ht)
  rw [h] at this
  simpa using this

theorem trodAll_stays {H : Type} {enc : TypeId × Value → H} {W W' : World} {sp : Nat → Bool} :
    ∀ {ts : List TypeId} {vs : List Value} {ds : List (DataW H)} {ps : List MemPlace}, (∀ t ∈ ts, t < Tryd.prog.types.size) → DataW.TrodAll enc Tryd.prog W 0 (fun _ => true) true ts vs ds ps →
      (∀ p ∈ ps, W.sameAt W' p) → (∀ p ∈ ps, sp p.block = true) → DataW.TrodAll enc Tryd.prog W' 0 sp true ts vs ds ps
  | [], vs, ds, ps, _, h, _, _ => by
    obtain ⟨rfl, rfl, rfl⟩ := trodAll_nil h
    exact rfl
  | t :: ts, vs, ds, ps, ht, h, h1, h2 => by
    obtain ⟨v, vs', d, ds', p, q, rfl, rfl, rfl, ⟨fuel, hf⟩, hr⟩ := trodAll_cons h
    refine ⟨p, q, ⟨fuel, DataW.trod_stays (x := (d, p)) stay_kids stay_pos (fun h => by cases h) (ht t (by simp)) hf (fun x hx => h1 x (List.mem_append_left _ hx)) (fun x hx => h2 x (List.mem_append_left _ hx))⟩, ?_, rfl⟩
    exact trodAll_stays (fun t h => ht t (List.mem_cons_of_mem _ h)) hr (fun x hx => h1 x (List.mem_append_right _ hx)) (fun x hx => h2 x (List.mem_append_right _ hx))

/-- A law that returned true and left everything alone. -/
theorem post_true {H : Type} {enc : TypeId × Value → H} {f : Func} {s : ChangeSpec} {W W' : World} {args : Array Value} {ds gs : List (DataW H)} {before : List MemPlace}
    (hW : DataW.Whole enc Tryd.prog f.params.toList s.vars false W args.toList ds gs before) (hvars : s.vars = []) (hT : ∀ t ∈ f.params.toList, t < Tryd.prog.types.size)
    (hrt : f.resultTypes = #[4]) (hres : (s.fn H ds).results = [.lit (.bool true)]) (hargs : (s.fn H ds).args = ds) (hv : (s.fn H ds).vars = []) (hb : Below W.heap.size W W') :
    s.post enc Tryd.prog f false true false false W args (.bool true) W' := by
  have hlt := hW.lt
  have hW0 := hW
  obtain ⟨p, q, hA, hV, rfl, _, _⟩ := hW
  rw [hvars] at hV
  obtain ⟨rfl, rfl⟩ := trodVars_none hV
  rw [List.append_nil] at hlt
  refine ⟨ds, [], p ++ [], [], p, [], hW0, ?_, ?_, ?_, hb.frame _, fun h => by cases h⟩
  · rw [List.append_nil, hres, hrt]
    exact trodAll_cons_mk (shut_bool Tryd.underlying4 _) trodAll_mk0
  · rw [List.append_nil, hargs]
    exact trodAll_stays hT hA (fun x hx => hb.same (hlt x hx)) (fun x hx => by simpa using hlt x hx)
  · rw [List.append_nil, hv, hvars]
    exact rfl

end Go.Proofs.YtpbdcghiabhliaaDoor

/-
  The objects that the law makes; an object within objects, plainly.
-/
import Derived.Test.YtfdbjgdafolbmaaDoorJsN
namespace Go.Proofs.YtfdbjgdafolbmaaDoor
open Go.RowKit Go.Sort Go.Shelf

namespace Js
theorem comp_app (p a b : List UInt8) : Lib.compareBytes (p ++ a) (p ++ b) = Lib.compareBytes a b := by
  induction p with
  | nil => rfl
  | cons c p ih =>
    rw [List.cons_append, List.cons_append, Lib.compareBytes, if_neg (by simp), if_neg (by simp), ih]
theorem map_swp (f : Fd → Fd) (d : Array Fd) (i j : Nat) (hi : i < d.size) (hj : j < d.size) : Sort.swp (d.map f) i j = (Sort.swp d i j).map f := by
  unfold Sort.swp
  rw [getElem!_pos (d.map f) j (by simpa using hj), getElem!_pos (d.map f) i (by simpa using hi), getElem!_pos d j hj, getElem!_pos d i hi]
  apply Array.ext
  · simp
  · intro k h1 h2
    simp
theorem map_insInner (f : Fd → Fd) (lt : Fd → Fd → Bool) (h : ∀ x y, lt (f x) (f y) = lt x y) (a : Nat) : ∀ (j : Nat) (d : Array Fd), j < d.size → Sort.insInner lt a j (d.map f) = (Sort.insInner lt a j d).map f := by
  intro j
  induction j with
  | zero => intro d _; rfl
  | succ j ih =>
    intro d hj
    rw [Sort.insInner, Sort.insInner, getElem!_pos (d.map f) (j + 1) (by simpa using hj), getElem!_pos (d.map f) j (by simp; omega), getElem!_pos d (j + 1) hj, getElem!_pos d j (by omega), Array.getElem_map, Array.getElem_map, h]
    split
    · rw [map_swp f d _ _ hj (by omega), ih _ (by simp [Sort.swp]; omega)]
    · rfl
theorem map_insOuter (f : Fd → Fd) (lt : Fd → Fd → Bool) (h : ∀ x y, lt (f x) (f y) = lt x y) (a b : Nat) : ∀ (n i : Nat) (d : Array Fd), b - i = n → b ≤ d.size → Sort.insOuter lt a b i (d.map f) = (Sort.insOuter lt a b i d).map f := by
  intro n
  induction n with
  | zero =>
    intro i d hn _
    rw [Sort.insOuter, if_neg (by omega), Sort.insOuter.eq_def (d := d), if_neg (by omega)]
  | succ n ih =>
    intro i d hn hb
    rw [Sort.insOuter, if_pos (by omega), Sort.insOuter.eq_def (d := d), if_pos (by omega), map_insInner f lt h a i d (by omega), ih _ _ (by omega) (by rw [size_insInner]; exact hb)]
theorem sortF_px (p : List UInt8) (d : List Fd) : sortF (d.map (px p)).toArray = (sortF d.toArray).map (px p) := by
  unfold sortF Sort.insertionSort
  have e : (d.map (px p)).toArray = d.toArray.map (px p) := by simp
  have hs : (d.toArray.map (px p)).size = d.toArray.size := by simp
  rw [e, hs]
  exact map_insOuter (px p) (ltOf cmpF) (fun x y => by unfold ltOf cmpF px; rw [comp_app]) _ _ _ _ _ rfl (Nat.le_refl _)

/-- An object as the law makes it, behind its opening brace. -/
structure Inn (b : List UInt8) : Prop where
  no1 : 123 ∉ b
  no2 : 125 ∉ b.dropLast
  len : b.length ≤ 60
theorem inn_end {b u r : List UInt8} (h : Inn b) (e : 123 :: b = u ++ 125 :: r) : r = [] := by
  cases r with
  | nil => rfl
  | cons c r =>
    exfalso
    apply h.no2
    have h1 := congrArg List.dropLast e
    cases b with
    | nil =>
      have := congrArg List.length e
      simp at this
      omega
    | cons x b =>
      rw [List.dropLast_cons_cons, List.dropLast_append_of_ne_nil (by simp), List.dropLast_cons_cons] at h1
      have hm : (125 : UInt8) ∈ 123 :: (x :: b).dropLast := by rw [h1]; simp
      rcases List.mem_cons.1 hm with h2 | h2
      · exact absurd h2 (by decide)
      · exact h2

/-- What the law compares. -/
theorem nests_plain (b : List UInt8) (h : Inn b) (k : Nat) (h1 : 1 ≤ k) (h9 : k ≤ 9) :
    (∃ d, obj 9 [] (123 :: b) = .ok [] d ∧ d.length ≤ 19 ∧ (∀ x ∈ d, x.1.length ≤ 100) ∧ (k ≤ 8 → obj 9 [] (wraps (123 :: b) k) = .ok [] (d.map (px (kd k)))) ∧ (8 < k → obj 9 [] (wraps (123 :: b) k) = .err 5)) ∨
    (obj 9 [] (123 :: b) = .err 1 ∧ ∃ c, c ≠ 0 ∧ obj 9 [] (wraps (123 :: b) k) = .err c) := by
  have hl := h.len
  have h5 : 8 < k → obj 9 [] (wraps (123 :: b) k) = .err 5 := fun h8 => by
    obtain rfl : k = 9 := by omega
    have := obj_wraps_err 0 b 5 9 0 [] (by rw [obj, List.cons_append, blk_no (by decide), if_pos (hdc _ _)])
    simpa [br_zero] using this
  rcases obj_t k b h.no1 with ⟨r', d, a1, a2, ⟨u, hu⟩, a4, a5⟩ | ⟨a1, a2⟩
  · obtain rfl := inn_end h hu
    have e9 := a1 8 []
    rw [px_nil] at e9
    refine .inl ⟨d, e9, by simp at a4; omega, fun x hx => by have := a5 x hx; simp at this; omega, fun h8 => ?_, h5⟩
    have hb := a2 (8 - k) ([] ++ kd k)
    have := obj_wraps_ok (8 - k + 1) b k _ k 0 [] hb
    rw [if_pos (Nat.le_refl _), Nat.sub_self, br_zero, List.append_nil, show 8 - k + 1 + k = 9 by omega, List.nil_append] at this
    exact this
  · refine .inr ⟨a1 8 [], ?_⟩
    by_cases h8 : k ≤ 8
    · refine ⟨1, by decide, ?_⟩
      rcases a2 with a2 | ⟨j, hj, a2⟩
      · have := obj_wraps_err (8 - k + 1) b 1 k 0 [] (a2 (8 - k) ([] ++ kd k))
        rw [br_zero, List.append_nil, show 8 - k + 1 + k = 9 by omega] at this
        exact this
      · obtain ⟨fs, hf⟩ := a2 (8 - k) ([] ++ kd k)
        have := obj_wraps_ok (8 - k + 1) b j fs k 0 [] hf
        rw [if_neg (by omega), br_zero, List.append_nil, show 8 - k + 1 + k = 9 by omega] at this
        exact this
    · exact ⟨5, by decide, h5 (by omega)⟩
end Js

/-! The list of choices hands out strings. -/
def PickP (g : Nat) (W : World) (fs : List (List UInt8)) (e : Ending) (w' : World) : Prop := ∃ x, x ∈ fs ∧ e = .returned (.string ⟨x.toArray⟩) ∧ CodesAt w' g ∧ Apart g W w'
theorem pickF (g : Nat) (W : World) (fs : List (List UInt8)) (hc : CodesAt W g) (h0 : 0 < fs.length) (h1 : fs.length ≤ 1000) :
    Calls Tryd.prog 9 #[.pointer (some ⟨g, 0, none⟩), .slice (some ⟨W.heap.size, 0, none⟩) fs.length fs.length] (W.alloc (.cells (fs.map fun f => Value.string ⟨f.toArray⟩).toArray 9)) (PickP g W fs) := by
  have hb : Below W.heap.size W (W.alloc (.cells (fs.map fun f => Value.string ⟨f.toArray⟩).toArray 9)) := (Below.refl _ W).alloc (Nat.le_refl _) _
  refine (pick_any g W.heap.size fs.length fs _ (hc.below hb) (by have := hc.1; omega) (by simp) (fun i h => ?_) h0 h1).mono fun e w' ⟨k, hk, he, h2, h3⟩ => ⟨fs[k], List.getElem_mem hk, he, h2, (Apart.of_below hb hc.1).trans h3⟩
  simp [go_sem, h]
def pickA : List (List UInt8) := [[], [32]]
theorem pickA_any (g : Nat) (W : World) (hc : CodesAt W g) : Calls Tryd.prog 9 #[.pointer (some ⟨g, 0, none⟩), .slice (some ⟨W.heap.size, 0, none⟩) 2 2] (W.alloc (.cells #[.string ⟨#[]⟩, .string ⟨#[32]⟩] 9)) (PickP g W pickA) :=
  pickF g W pickA hc (by decide) (by decide)
def pickB : List (List UInt8) := [[97], [98], [99, 46, 100], [195, 169], [97, 92, 110], [49]]
theorem pickB_any (g : Nat) (W : World) (hc : CodesAt W g) : Calls Tryd.prog 9 #[.pointer (some ⟨g, 0, none⟩), .slice (some ⟨W.heap.size, 0, none⟩) 6 6] (W.alloc (.cells #[.string ⟨#[97]⟩, .string ⟨#[98]⟩, .string ⟨#[99, 46, 100]⟩, .string ⟨#[195, 169]⟩, .string ⟨#[97, 92, 110]⟩, .string ⟨#[49]⟩] 9)) (PickP g W pickB) :=
  pickF g W pickB hc (by decide) (by decide)
def pickC : List (List UInt8) := [[49], [45, 50, 48], [48], [48, 48, 55], [45], [116, 114, 117, 101], [102, 97, 108, 115, 101], [110, 117, 108, 108], [34, 120, 92, 116, 121, 34], [34, 34], [34, 92, 117, 48, 48, 52, 49, 34], [91, 49, 93], [49, 46, 53]]
theorem pickC_any (g : Nat) (W : World) (hc : CodesAt W g) : Calls Tryd.prog 9 #[.pointer (some ⟨g, 0, none⟩), .slice (some ⟨W.heap.size, 0, none⟩) 13 13] (W.alloc (.cells #[.string ⟨#[49]⟩, .string ⟨#[45, 50, 48]⟩, .string ⟨#[48]⟩, .string ⟨#[48, 48, 55]⟩, .string ⟨#[45]⟩, .string ⟨#[116, 114, 117, 101]⟩, .string ⟨#[102, 97, 108, 115, 101]⟩, .string ⟨#[110, 117, 108, 108]⟩, .string ⟨#[34, 120, 92, 116, 121, 34]⟩, .string ⟨#[34, 34]⟩, .string ⟨#[34, 92, 117, 48, 48, 52, 49, 34]⟩, .string ⟨#[91, 49, 93]⟩, .string ⟨#[49, 46, 53]⟩] 9)) (PickP g W pickC) :=
  pickF g W pickC hc (by decide) (by decide)
def pickD : List (List UInt8) := [[125], [125], [125], [32, 125], []]
theorem pickD_any (g : Nat) (W : World) (hc : CodesAt W g) : Calls Tryd.prog 9 #[.pointer (some ⟨g, 0, none⟩), .slice (some ⟨W.heap.size, 0, none⟩) 5 5] (W.alloc (.cells #[.string ⟨#[125]⟩, .string ⟨#[125]⟩, .string ⟨#[125]⟩, .string ⟨#[32, 125]⟩, .string ⟨#[]⟩] 9)) (PickP g W pickD) :=
  pickF g W pickD hc (by decide) (by decide)

end Go.Proofs.YtfdbjgdafolbmaaDoor

/-
  What ParsePairs writes is read back: the pairs, their order; the empty list.
-/
import Derived.Test.YtfdbjgdafolbmaaDoorParO
namespace Go.Proofs.YtfdbjgdafolbmaaDoor
open Go.RowKit Go.Sort Go.Shelf

/-- The names that the law writes. -/
def pNames : List (List UInt8) := [[122, 101, 116, 97], [98], [97, 46, 98], [95], [120, 49]]
/-- Blanks, name, value: as they are written. -/
def writ : List (List UInt8 × Fd) → List UInt8
  | [] => []
  | t :: r => t.1 ++ (t.2.1 ++ 61 :: 34 :: (Asc.esc t.2.2 ++ 34 :: writ r))
def piece (t : List UInt8 × Fd) : List UInt8 := t.1 ++ (t.2.1 ++ 61 :: 34 :: (Asc.esc t.2.2 ++ [34]))
theorem writ_snoc (ts : List (List UInt8 × Fd)) (t : List UInt8 × Fd) : writ (ts ++ [t]) = writ ts ++ piece t := by
  induction ts with
  | nil => simp [writ, piece]
  | cons u r ih => simp only [List.cons_append, writ, ih, List.append_assoc]
structure Wr (t : List UInt8 × Fd) : Prop where
  sp : t.1 = [32] ∨ t.1 = [32, 32]
  pos : 0 < t.2.1.length
  len : t.2.1.length ≤ 32
  nm : ∀ j (h : j < t.2.1.length), (t.2.1[j]).toNat < 128 ∧ t.2.1[j] ≠ 61 ∧ t.2.1[j] ≠ 32
  val : t.2.2.length ≤ 60
theorem writ_len (ts : List (List UInt8 × Fd)) (h : ∀ t ∈ ts, Wr t) : (writ ts).length ≤ 200 * ts.length := by
  induction ts with
  | nil => simp [writ]
  | cons t r ih =>
    have h1 := h t (by simp)
    have h2 := ih fun u hu => h u (List.mem_cons_of_mem _ hu)
    have h3 := Asc.esc_len t.2.2
    have h4 := h1.len
    have h5 := h1.val
    have h6 : t.1.length ≤ 2 := by rcases h1.sp with e | e <;> rw [e] <;> decide
    simp [writ]
    omega
theorem trimB_len (l : List UInt8) : (trimB l).length ≤ l.length := (List.dropWhile_sublist _).length_le
theorem trimB_no (c : UInt8) (r : List UInt8) (h : c ≠ 32) : trimB (c :: r) = c :: r := by
  unfold trimB
  rw [List.dropWhile_cons, if_neg (by simpa using h)]
theorem trimB_sp (sp r : List UInt8) (h : sp = [32] ∨ sp = [32, 32]) : trimB (sp ++ r) = trimB r := by
  rcases h with rfl | rfl <;> simp [trimB]
theorem writ_head (ts : List (List UInt8 × Fd)) (h : ∀ t ∈ ts, Wr t) : writ ts = [] ∨ (writ ts).head? = some 32 := by
  cases ts with
  | nil => exact .inl rfl
  | cons t r =>
    refine .inr ?_
    rw [writ]
    rcases (h t (by simp)).sp with e | e <;> rw [e] <;> rfl

theorem kv_writ (ts : List (List UInt8 × Fd)) (h : ∀ t ∈ ts, Wr t) (hl : ts.length ≤ 100) : KV (trimB (writ ts)) (ts.map (·.2)) := by
  induction ts with
  | nil => exact KV.done
  | cons t r ih =>
    obtain ⟨sp, nm, v⟩ := t
    have h1 := h _ (List.mem_cons_self)
    have hr : ∀ u ∈ r, Wr u := fun u hu => h u (List.mem_cons_of_mem _ hu)
    have h2 := writ_len r hr
    have h3 := Asc.esc_len v
    have hv : v.length ≤ 60 := h1.val
    have hn : nm.length ≤ 32 := h1.len
    have hp : 0 < nm.length := h1.pos
    have hln : r.length ≤ 100 := by simp at hl; omega
    have e : trimB (writ ((sp, nm, v) :: r)) = nm ++ 61 :: 34 :: (Asc.esc v ++ 34 :: writ r) := by
      rw [writ, trimB_sp _ _ h1.sp]
      show trimB (nm ++ 61 :: 34 :: (Asc.esc v ++ 34 :: writ r)) = _
      cases nm with
      | nil => simp at hp
      | cons c nm =>
        rw [List.cons_append, trimB_no]
        exact (h1.nm 0 (by simp)).2.2
    rw [e, List.map_cons]
    have htl := trimB_len (writ r)
    refine KV.step (r := writ r) (by simp) (by omega) (by simp; omega) (fun w => ?_) (ih hr hln)
    refine pair_quoted nm (Asc.esc v ++ 34 :: writ r) v (writ r) w (by simp; omega) (fun w => indexAny_head nm (34 :: (Asc.esc v ++ 34 :: writ r)) w h1.nm (by simp; omega)) ?_ (writ_head r hr)
    rw [Asc.qd_esc]
    simp

/-- The fields that were written, in the order of their names. -/
def srt : List (List UInt8) → List Fd
  | [a] => [([122, 101, 116, 97], a)]
  | [a, b] => [([98], b), ([122, 101, 116, 97], a)]
  | [a, b, c] => [([97, 46, 98], c), ([98], b), ([122, 101, 116, 97], a)]
  | [a, b, c, d] => [([95], d), ([97, 46, 98], c), ([98], b), ([122, 101, 116, 97], a)]
  | [a, b, c, d, e] => [([95], d), ([97, 46, 98], c), ([98], b), ([120, 49], e), ([122, 101, 116, 97], a)]
  | _ => []
def fdsOf (vs : List (List UInt8)) : List Fd := pNames.zip vs
theorem five (vs : List (List UInt8)) (h : vs.length ≤ 5) : vs = [] ∨ (∃ a, vs = [a]) ∨ (∃ a b, vs = [a, b]) ∨ (∃ a b c, vs = [a, b, c]) ∨ (∃ a b c d, vs = [a, b, c, d]) ∨ ∃ a b c d e, vs = [a, b, c, d, e] := by
  match vs, h with
  | [], _ => exact .inl rfl
  | [a], _ => exact .inr (.inl ⟨a, rfl⟩)
  | [a, b], _ => exact .inr (.inr (.inl ⟨a, b, rfl⟩))
  | [a, b, c], _ => exact .inr (.inr (.inr (.inl ⟨a, b, c, rfl⟩)))
  | [a, b, c, d], _ => exact .inr (.inr (.inr (.inr (.inl ⟨a, b, c, d, rfl⟩))))
  | [a, b, c, d, e], _ => exact .inr (.inr (.inr (.inr (.inr ⟨a, b, c, d, e, rfl⟩))))
  | _ :: _ :: _ :: _ :: _ :: _ :: _, h => simp at h
theorem srt_len (vs : List (List UInt8)) (h : vs.length ≤ 5) : (srt vs).length = vs.length := by
  rcases five vs h with rfl | ⟨_, rfl⟩ | ⟨_, _, rfl⟩ | ⟨_, _, _, rfl⟩ | ⟨_, _, _, _, rfl⟩ | ⟨_, _, _, _, _, rfl⟩ <;> rfl
theorem fds_len (vs : List (List UInt8)) (h : vs.length ≤ 5) : (fdsOf vs).length = vs.length := by
  unfold fdsOf; rw [List.length_zip]; exact Nat.min_eq_right h
theorem sortF_srt (vs : List (List UInt8)) (h : vs.length ≤ 5) : sortF (fdsOf vs).toArray = (srt vs).toArray := by
  rcases five vs h with rfl | ⟨_, rfl⟩ | ⟨_, _, rfl⟩ | ⟨_, _, _, rfl⟩ | ⟨_, _, _, _, rfl⟩ | ⟨_, _, _, _, _, rfl⟩
  all_goals kernel_rfl
theorem rsort_srt (vs : List (List UInt8)) (h : vs.length ≤ 5) : rsort [] (fdsOf vs) = some (srt vs) := by
  rcases five vs h with rfl | ⟨_, rfl⟩ | ⟨_, _, rfl⟩ | ⟨_, _, _, rfl⟩ | ⟨_, _, _, _, rfl⟩ | ⟨_, _, _, _, _, rfl⟩
  all_goals kernel_rfl
theorem srt_dist (vs : List (List UInt8)) (h : vs.length ≤ 5) : ∀ i, 1 ≤ i → i < vs.length → ((srt vs).toArray[i]!).1 ≠ ((srt vs).toArray[i - 1]!).1 := by
  intro i h1 h2
  have h3 : i = 1 ∨ i = 2 ∨ i = 3 ∨ i = 4 := by omega
  rcases five vs h with rfl | ⟨_, rfl⟩ | ⟨_, _, rfl⟩ | ⟨_, _, _, rfl⟩ | ⟨_, _, _, _, rfl⟩ | ⟨_, _, _, _, _, rfl⟩
  all_goals
    rcases h3 with rfl | rfl | rfl | rfl
    all_goals first | (exfalso; simp at h2; done) | (show _ ≠ _; simp [srt])
theorem pNames_ok (i : Nat) (h : i < pNames.length) : NameOk pNames[i] := by
  have h3 : i = 0 ∨ i = 1 ∨ i = 2 ∨ i = 3 ∨ i = 4 := by simp [pNames] at h; omega
  rcases h3 with rfl | rfl | rfl | rfl | rfl
  all_goals exact ⟨by decide +revert, by decide +revert, by decide +revert, by decide +revert⟩
theorem pNames_wr (i : Nat) (h : i < pNames.length) : 0 < (pNames[i]).length ∧ (pNames[i]).length ≤ 32 ∧ ∀ j (h' : j < (pNames[i]).length), ((pNames[i])[j]).toNat < 128 ∧ (pNames[i])[j] ≠ 61 ∧ (pNames[i])[j] ≠ 32 := by
  have h3 : i = 0 ∨ i = 1 ∨ i = 2 ∨ i = 3 ∨ i = 4 := by simp [pNames] at h; omega
  rcases h3 with rfl | rfl | rfl | rfl | rfl <;> decide +revert

/-! The empty list. -/
set_option maxHeartbeats 1000000 in
theorem clone_nil (w : World) : Calls Tryd.prog 27 #[.slice none 0 0] w fun e w' => e = .returned (.slice none 0 0) ∧ Below w.heap.size w w' := by
  have hnil : (binOp .eql 27 (.slice none 0 0) (.slice none 0 0)).run Tryd.prog w = .ok (.bool true) w :=
    Lib.run_eql_slice_nil w 27 30 none 0 0 0 0 Tryd.underlying27
  go_enter Tryd.func27, Tryd.ntmps27
  go_wp2_with fail
  go_ret
  exact ⟨rfl, Below.refl _ _⟩
theorem ins_nil (w : World) : Calls Tryd.prog 62 #[.slice none 0 0, .int .i64 0, .int .i64 0, .func (.func 29) #[] #[]] w fun e w' => e = .returned (.tuple #[]) ∧ w = w' := by
  go_enter Tryd.func62, Tryd.ntmps62
  go_wp2_with fail
  refine wp_loop_rounds 1 ?_
  rw [rounds_succ]
  go_wp2_with fail
  go_end0
  exact ⟨rfl, rfl⟩
theorem stable_nil (w : World) : Calls Tryd.prog 46 #[.slice none 0 0, .int .i64 0, .func (.func 29) #[] #[]] w fun e w' => e = .returned (.tuple #[]) ∧ w = w' := by
  go_enter Tryd.func46, Tryd.ntmps46
  go_wp2_with fail
  refine wp_loop_rounds 1 ?_
  rw [rounds_succ]
  go_wp2_with (go_at_call 62; refine (ins_nil _).mono ?_; rintro e w' ⟨rfl, rfl⟩)
  refine wp_loop_rounds 1 ?_
  rw [rounds_succ]
  go_wp2_with fail
  go_end0
  exact ⟨rfl, rfl⟩
theorem sort_nil (w : World) : Calls Tryd.prog 28 #[.slice none 0 0, .func (.func 29) #[] #[]] w fun e w' => e = .returned (.tuple #[]) ∧ w = w' := by
  go_enter Tryd.func28, Tryd.ntmps28
  go_wp2_with (go_at_call 46; refine (stable_nil _).mono ?_; rintro e w' ⟨rfl, rfl⟩)
  go_end0
  exact ⟨rfl, rfl⟩
theorem pSort_nil (w : World) : Calls Tryd.prog 15 #[.slice none 0 0] w fun e w' => e = .returned (.tuple #[.slice none 0 0, .int .i64 0]) ∧ Below w.heap.size w w' := by
  go_enter Tryd.func15, Tryd.ntmps15
  go_wp2_with fail
  refine wp_loop_rounds 1 ?_
  rw [rounds_succ]
  go_wp2_with (go_at_call 27; refine (clone_nil _).mono ?_; rintro e w1 ⟨rfl, hb⟩)
  go_wp2_with (go_at_call 28; refine (sort_nil _).mono ?_; rintro e w' ⟨rfl, rfl⟩)
  refine wp_loop_rounds 1 ?_
  rw [rounds_succ]
  go_wp2_with fail
  go_ret2
  exact ⟨rfl, hb⟩
theorem keyValue_nil (w : World) : Calls Tryd.prog 11 #[.string ⟨#[]⟩] w fun e w' => e = .returned (.tuple #[.slice none 0 0, .int .i64 0]) ∧ Below w.heap.size w w' := by
  have HT := Lib.hid (trim_left [] w)
  go_enter Tryd.func11, Tryd.ntmps11
  go_wp2_with (go_at_call 23; refine HT.out.mono ?_; rintro e w' ⟨rfl, rfl⟩)
  refine wp_loop_rounds 1 ?_
  rw [rounds_succ]
  go_wp2_with (go_at_call 15; refine (pSort_nil _).mono ?_; rintro e w' ⟨rfl, hb⟩)
  go_ret2
  exact ⟨rfl, hb⟩
theorem sameF_nil (a : Option Addr) (c : Nat) (w : World) : Calls Tryd.prog 12 #[.slice none 0 0, .slice a 0 c] w fun e w' => e = .returned (.bool true) ∧ w = w' := by
  go_enter Tryd.func12, Tryd.ntmps12
  go_wp2_with fail
  refine wp_loop_rounds 1 ?_
  rw [rounds_succ]
  go_wp2_with fail
  go_ret
  exact ⟨rfl, rfl⟩

end Go.Proofs.YtfdbjgdafolbmaaDoor

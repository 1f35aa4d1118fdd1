/-
  The decoder in memory; fail, sees, takes, blanks, expect.
-/
import Derived.Test.YtfdbjgdafolbmaaDoorJsM
import Derived.Test.YtfdbjgdafolbmaaDoorParQ
namespace Go.Proofs.YtfdbjgdafolbmaaDoor
open Go.RowKit Go.Sort Go.Shelf

/-- The decoder at the block g: the string, the offset, the error, the fields. -/
structure DAt (w0 : World) (g : Nat) (s : List UInt8) (k e : Nat) (fs : List Fd) (W : World) : Prop where
  c0 : W.cell? ⟨g, 0, none⟩ = some (.string ⟨s.toArray⟩)
  c1 : W.cell? ⟨g, 1, none⟩ = some (.int .i64 k)
  c2 : W.cell? ⟨g, 2, none⟩ = some (.int .i64 e)
  c3 : ∃ v, W.cell? ⟨g, 3, none⟩ = some v ∧ W.ownsRow (g + 1) 30 2 v fs.length (cellsF fs) ∧ (fs = [] → v = .slice none 0 0)
  fz : ∀ i, W.frozen? ⟨g, i, none⟩ = false
  lo : w0.heap.size ≤ g
  hi : g < W.heap.size
  below : Below w0.heap.size w0 W
  k0 : Kinds w0
theorem DAt.kinds {w0 W : World} {g k e : Nat} {s : List UInt8} {fs : List Fd} (h : DAt w0 g s k e fs W) : Kinds W := h.k0.below h.below
theorem DAt.later {w0 W W' : World} {g k e : Nat} {s : List UInt8} {fs : List Fd} (h : DAt w0 g s k e fs W) (hb : Below W.heap.size W W') : DAt w0 g s k e fs W' := by
  obtain ⟨v, h1, h2, h3⟩ := h.c3
  exact ⟨(hb.cell (p := ⟨g, 0, none⟩) h.hi).trans h.c0, (hb.cell (p := ⟨g, 1, none⟩) h.hi).trans h.c1, (hb.cell (p := ⟨g, 2, none⟩) h.hi).trans h.c2,
    ⟨v, (hb.cell (p := ⟨g, 3, none⟩) h.hi).trans h1, own_keep h2 fun j _ hj => hb.block j hj, h3⟩, fun i => (hb.frozen (p := ⟨g, i, none⟩) h.hi).trans (h.fz i), h.lo, Nat.lt_of_lt_of_le h.hi hb.size, h.below.trans (hb.mono h.below.size), h.k0⟩
theorem DAt.drewN {w0 W : World} {g k e : Nat} {s : List UInt8} {fs : List Fd} (h : DAt w0 g s k e fs W) (q : Nat) : DAt w0 g s k e fs (W.drewN q) := h.later (below_drewN (Below.refl _ _) q)
theorem ne_off {g i j : Nat} (h : i ≠ j) : (⟨g, i, none⟩ : Addr) ≠ ⟨g, j, none⟩ := by intro e; simp only [Addr.mk.injEq] at e; omega
theorem DAt.at {w0 W : World} {g k e : Nat} {s : List UInt8} {fs : List Fd} (h : DAt w0 g s k e fs W) (j : Nat) : DAt w0 g s j e fs (W.setCell ⟨g, 1, none⟩ (.int .i64 j)) := by
  obtain ⟨v, h1, h2, h3⟩ := h.c3
  refine ⟨?_, World.cell?_setCell_same _ _ _ h.c1, ?_, ⟨v, ?_, own_keep h2 fun i hi _ => Below.heap_setCell _ _ _ i (by simp; omega), h3⟩, fun i => by rw [World.frozen?_setCell]; exact h.fz i, h.lo, by simpa using h.hi, h.below.setCell (p := ⟨g, 1, none⟩) h.lo _, h.k0⟩
  · rw [World.cell?_setCell_other _ _ _ _ (ne_off (by decide))]; exact h.c0
  · rw [World.cell?_setCell_other _ _ _ _ (ne_off (by decide))]; exact h.c2
  · rw [World.cell?_setCell_other _ _ _ _ (ne_off (by decide))]; exact h1
theorem DAt.er {w0 W : World} {g k e : Nat} {s : List UInt8} {fs : List Fd} (h : DAt w0 g s k e fs W) (j : Nat) : DAt w0 g s k j fs (W.setCell ⟨g, 2, none⟩ (.int .i64 j)) := by
  obtain ⟨v, h1, h2, h3⟩ := h.c3
  refine ⟨?_, ?_, World.cell?_setCell_same _ _ _ h.c2, ⟨v, ?_, own_keep h2 fun i hi _ => Below.heap_setCell _ _ _ i (by simp; omega), h3⟩, fun i => by rw [World.frozen?_setCell]; exact h.fz i, h.lo, by simpa using h.hi, h.below.setCell (p := ⟨g, 2, none⟩) h.lo _, h.k0⟩
  · rw [World.cell?_setCell_other _ _ _ _ (ne_off (by decide))]; exact h.c0
  · rw [World.cell?_setCell_other _ _ _ _ (ne_off (by decide))]; exact h.c1
  · rw [World.cell?_setCell_other _ _ _ _ (ne_off (by decide))]; exact h1

theorem fail_eq {w0 W : World} {g k : Nat} {s : List UInt8} {fs : List Fd} (h : DAt w0 g s k 0 fs W) (c : Nat) :
    Calls Tryd.prog 34 #[.pointer (some ⟨g, 0, none⟩), .int .i64 c] W fun e w' => e = .returned (.tuple #[]) ∧ w' = W.setCell ⟨g, 2, none⟩ (.int .i64 c) := by
  have h2 := h.c2
  have f2 := h.fz 2
  clear h
  go_enter Tryd.func34, Tryd.ntmps34
  go_wp2_with fail
  go_end0
  exact ⟨rfl, rfl⟩
theorem fail_ok {w0 W : World} {g k : Nat} {s : List UInt8} {fs : List Fd} (h : DAt w0 g s k 0 fs W) (c : Nat) :
    Calls Tryd.prog 34 #[.pointer (some ⟨g, 0, none⟩), .int .i64 c] W fun e w' => e = .returned (.tuple #[]) ∧ DAt w0 g s k c fs w' :=
  (fail_eq h c).mono fun _ _ ⟨h1, h2⟩ => ⟨h1, h2 ▸ h.er c⟩
theorem fail_er {w0 W : World} {g k e0 : Nat} {s : List UInt8} {fs : List Fd} (h : DAt w0 g s k e0 fs W) (he : e0 ≠ 0) (c : Nat) :
    Calls Tryd.prog 34 #[.pointer (some ⟨g, 0, none⟩), .int .i64 c] W fun e w' => e = .returned (.tuple #[]) ∧ DAt w0 g s k e0 fs w' := by
  have h2 := h.c2
  have H := Lib.hid h
  have t : ((e0 : Int) == 0) = false := by rw [beq_eq_false_iff_ne]; omega
  clear h
  go_enter Tryd.func34, Tryd.ntmps34
  go_wp2_with fail
  go_end0
  exact ⟨rfl, H.out⟩

theorem index_has (bs : List UInt8) (c : UInt8) (b : Bool) (hb : bs.contains c = b) : ∃ i : Int, decide (0 ≤ i) = b ∧ (b = true → ∃ n : Nat, i = (n : Int) ∧ n = Asc.pos bs c ∧ n < bs.length) ∧ ∀ w, Calls Tryd.prog 48 #[.string ⟨bs.toArray⟩, .int .u8 c.toNat] w fun e w' => e = .returned (.int .i64 i) ∧ w = w' := by
  have hc : ∀ w, Calls Tryd.prog 48 #[.string ⟨bs.toArray⟩, .int .u8 c.toNat] w fun e w' => e = .returned (.int .i64 (if Asc.pos bs c < bs.length then (Asc.pos bs c : Int) else -1)) ∧ w = w' := fun w => by
    have h := Tryd.strings_IndexByte ⟨bs.toArray⟩ (c.toNat : Int) w
    rw [u8_of] at h
    have e : (ByteArray.mk bs.toArray).data.toList = bs := by simp
    rw [e, Asc.indexByte_pos] at h
    exact h.mono fun e w' ⟨h1, h2⟩ => ⟨h1, h2.symm⟩
  by_cases hp : Asc.pos bs c < bs.length
  · rw [if_pos hp] at hc
    have ht : b = true := by
      rw [← hb, List.contains_iff_mem]
      have := Asc.pos_at hp
      rw [← this]; exact List.getElem_mem hp
    subst ht
    exact ⟨_, by simp, fun _ => ⟨_, rfl, rfl, hp⟩, hc⟩
  · rw [if_neg hp] at hc
    have ht : b = false := by
      rw [← hb, ← Bool.not_eq_true, List.contains_iff_mem]
      intro hm
      obtain ⟨i, hi, e⟩ := List.getElem_of_mem hm
      apply hp
      have : Asc.pos bs c ≤ i := by
        rcases Nat.lt_or_ge i (Asc.pos bs c) with g | g
        · exact absurd e (Asc.pos_before g hi)
        · exact g
      omega
    subst ht
    exact ⟨-1, by decide, (fun h => by cases h), hc⟩

theorem sees_er {w0 W : World} {g k e0 : Nat} {s : List UInt8} {fs : List Fd} (h : DAt w0 g s k e0 fs W) (he : e0 ≠ 0) (bs : List UInt8) :
    Calls Tryd.prog 49 #[.pointer (some ⟨g, 0, none⟩), .string ⟨bs.toArray⟩] W fun e w' => e = .returned (.bool false) ∧ DAt w0 g s k e0 fs w' := by
  have h0 := h.c0
  have h1 := h.c1
  have h2 := h.c2
  have H := Lib.hid h
  have t : ((e0 : Int) == 0) = false := by rw [beq_eq_false_iff_ne]; omega
  clear h
  go_enter Tryd.func49, Tryd.ntmps49
  go_wp2_with fail
  go_quiet (fail)
  go_wp2_with fail
  go_ret
  exact ⟨rfl, H.out.drewN _⟩
theorem sees_endQ {w0 W : World} {g k : Nat} {s : List UInt8} {fs : List Fd} (h : DAt w0 g s k 0 fs W) (hk : s.length ≤ k) (bs : List UInt8) :
    Calls Tryd.prog 49 #[.pointer (some ⟨g, 0, none⟩), .string ⟨bs.toArray⟩] W fun e w' => e = .returned (.bool false) ∧ Qt W w' := by
  have h0 := h.c0
  have h1 := h.c1
  have h2 := h.c2
  have t : decide ((k : Int) < (s.length : Int)) = false := decide_eq_false (by omega)
  have t' : decide (k < s.length) = false := decide_eq_false (by omega)
  clear h
  go_enter Tryd.func49, Tryd.ntmps49
  go_wp2_with fail
  go_quiet (fail)
  go_wp2_with fail
  go_ret
  exact ⟨rfl, Qt.drewN _ _⟩
theorem sees_end {w0 W : World} {g k : Nat} {s : List UInt8} {fs : List Fd} (h : DAt w0 g s k 0 fs W) (hk : s.length ≤ k) (bs : List UInt8) :
    Calls Tryd.prog 49 #[.pointer (some ⟨g, 0, none⟩), .string ⟨bs.toArray⟩] W fun e w' => e = .returned (.bool false) ∧ DAt w0 g s k 0 fs w' :=
  (sees_endQ h hk bs).mono fun _ _ ⟨h1, q, h2⟩ => ⟨h1, h2 ▸ h.drewN q⟩
theorem sees_atQ {w0 W : World} {g k : Nat} {s : List UInt8} {fs : List Fd} (h : DAt w0 g s k 0 fs W) (hk : k < s.length) (bs : List UInt8) (b : Bool) (hb : bs.contains s[k] = b) :
    Calls Tryd.prog 49 #[.pointer (some ⟨g, 0, none⟩), .string ⟨bs.toArray⟩] W fun e w' => e = .returned (.bool b) ∧ Qt W w' := by
  have h0 := h.c0
  have h1 := h.c1
  have h2 := h.c2
  have t : decide ((k : Int) < (s.length : Int)) = true := decide_eq_true (by omega)
  have t' : decide (k < s.length) = true := decide_eq_true (by omega)
  have t2 : (k : Int) < (s.length : Int) := by omega
  have t3 : (0 : Int) ≤ (k : Int) := by omega
  obtain ⟨i, hi, _, hc⟩ := index_has bs s[k] b hb
  have HI := Lib.hid hc
  obtain ⟨c, ⟨_, hy⟩, hcc, hc2⟩ := byte_at s k hk
  rw [hcc] at HI
  clear h hc hb hcc
  go_enter Tryd.func49, Tryd.ntmps49
  go_wp2_with fail
  go_quiet ((go_at_call 48; exact q_same (HI.out _)))
  go_wp2_with fail
  go_ret
  exact ⟨rfl, Qt.drewN _ _⟩
theorem sees_at {w0 W : World} {g k : Nat} {s : List UInt8} {fs : List Fd} (h : DAt w0 g s k 0 fs W) (hk : k < s.length) (bs : List UInt8) (b : Bool) (hb : bs.contains s[k] = b) :
    Calls Tryd.prog 49 #[.pointer (some ⟨g, 0, none⟩), .string ⟨bs.toArray⟩] W fun e w' => e = .returned (.bool b) ∧ DAt w0 g s k 0 fs w' :=
  (sees_atQ h hk bs b hb).mono fun _ _ ⟨h1, q, h2⟩ => ⟨h1, h2 ▸ h.drewN q⟩

/-! The two states: right so far, with the rest r; failed. -/
def DOK (w0 : World) (g : Nat) (s r : List UInt8) (fs : List Fd) (W : World) : Prop := ∃ k, k ≤ s.length ∧ s.drop k = r ∧ DAt w0 g s k 0 fs W ∧ fs.length + r.length ≤ s.length
def DER (w0 : World) (g : Nat) (s : List UInt8) (n c : Nat) (W : World) : Prop := c ≠ 0 ∧ ∃ k fs, k ≤ s.length ∧ DAt w0 g s k c fs W ∧ fs.length ≤ n
theorem drop_head {s r : List UInt8} {k : Nat} {c : UInt8} (h : s.drop k = c :: r) : ∃ hk : k < s.length, s[k] = c ∧ s.drop (k + 1) = r := by
  have hk : k < s.length := by
    rcases Nat.lt_or_ge k s.length with h' | h'
    · exact h'
    · rw [List.drop_of_length_le h'] at h; cases h
  rw [Asc.drop_cons hk] at h
  injection h with h1 h2
  exact ⟨hk, h1, h2⟩
theorem drop_end {s : List UInt8} {k : Nat} (h : s.drop k = []) : s.length ≤ k := by rwa [List.drop_eq_nil_iff] at h

def hd (bs r : List UInt8) : Bool := match r with | [] => false | c :: _ => bs.contains c
theorem sees_ok {w0 W : World} {g : Nat} {s r : List UInt8} {fs : List Fd} (h : DOK w0 g s r fs W) (bs : List UInt8) (b : Bool) (hb : hd bs r = b) :
    Calls Tryd.prog 49 #[.pointer (some ⟨g, 0, none⟩), .string ⟨bs.toArray⟩] W fun e w' => e = .returned (.bool b) ∧ DOK w0 g s r fs w' := by
  obtain ⟨k, hk, hr, hd, hl⟩ := h
  cases r with
  | nil =>
    subst hb
    exact (sees_end hd (drop_end hr) bs).mono fun e w' ⟨h1, h2⟩ => ⟨h1, k, hk, hr, h2, hl⟩
  | cons c r =>
    obtain ⟨h1, h2, h3⟩ := drop_head hr
    refine (sees_at hd h1 bs b (by rw [h2]; exact hb)).mono fun e w' ⟨h1, h2⟩ => ⟨h1, k, hk, hr, h2, hl⟩
theorem seesER {w0 W : World} {g n c : Nat} {s : List UInt8} (h : DER w0 g s n c W) (bs : List UInt8) :
    Calls Tryd.prog 49 #[.pointer (some ⟨g, 0, none⟩), .string ⟨bs.toArray⟩] W fun e w' => e = .returned (.bool false) ∧ DER w0 g s n c w' := by
  obtain ⟨hc, k, fs, hk, hd, hl⟩ := h
  exact (sees_er hd hc bs).mono fun e w' ⟨h1, h2⟩ => ⟨h1, hc, k, fs, hk, h2, hl⟩

theorem DOK.hide {w0 W : World} {g : Nat} {s r : List UInt8} {fs : List Fd} (h : DOK w0 g s r fs W) : Hid (DOK w0 g s r fs W) := h
theorem takes_yes {w0 W : World} {g : Nat} {s r : List UInt8} {fs : List Fd} {c : UInt8} (h : DOK w0 g s (c :: r) fs W) (hs : s.length ≤ 1000) :
    Calls Tryd.prog 51 #[.pointer (some ⟨g, 0, none⟩), .string ⟨#[c]⟩] W fun e w' => e = .returned (.bool true) ∧ DOK w0 g s r fs w' := by
  have HS := Lib.hid (sees_ok h [c] true (by simp [hd]))
  clear h
  go_enter Tryd.func51, Tryd.ntmps51
  go_wp2_with (go_at_call 49; refine HS.out.mono ?_)
  rintro e w1 ⟨rfl, k, hk, hr, hd, hl⟩
  obtain ⟨h1, h2, h3⟩ := drop_head hr
  have H := Lib.hid (show DOK w0 g s r fs (w1.setCell ⟨g, 1, none⟩ (.int .i64 ((k + 1 : Nat) : Int))) from ⟨k + 1, h1, h3, hd.at (k + 1), by simp at hl; omega⟩)
  have c1 := hd.c1
  have f1 := hd.fz 1
  clear hd hr h2 h3 hl
  go_wp2_with fail
  go_ret
  exact ⟨rfl, H.out⟩
theorem takes_no {w0 W : World} {g : Nat} {s r : List UInt8} {fs : List Fd} {c : UInt8} (h : DOK w0 g s r fs W) (hh : r.head? ≠ some c) :
    Calls Tryd.prog 51 #[.pointer (some ⟨g, 0, none⟩), .string ⟨#[c]⟩] W fun e w' => e = .returned (.bool false) ∧ DOK w0 g s r fs w' := by
  have HS := Lib.hid (sees_ok h [c] false (by cases r with | nil => rfl | cons d r => simp [hd] at hh ⊢; exact hh))
  clear h hh
  go_enter Tryd.func51, Tryd.ntmps51
  go_wp2_with (go_at_call 49; refine HS.out.mono ?_)
  rintro e w1 ⟨rfl, hd⟩
  have H := Lib.hid hd
  clear hd
  go_wp2_with fail
  go_ret
  exact ⟨rfl, H.out⟩
theorem takesER {w0 W : World} {g n c : Nat} {s : List UInt8} (h : DER w0 g s n c W) (bs : List UInt8) :
    Calls Tryd.prog 51 #[.pointer (some ⟨g, 0, none⟩), .string ⟨bs.toArray⟩] W fun e w' => e = .returned (.bool false) ∧ DER w0 g s n c w' := by
  have HS := Lib.hid (seesER h bs)
  clear h
  go_enter Tryd.func51, Tryd.ntmps51
  go_wp2_with (go_at_call 49; refine HS.out.mono ?_)
  rintro e w1 ⟨rfl, hd⟩
  have H := Lib.hid hd
  clear hd
  go_wp2_with fail
  go_ret
  exact ⟨rfl, H.out⟩

theorem blk_step {s : List UInt8} {j : Nat} (h : j < s.length) : Js.blk (s.drop j) = if Js.sp s[j] then Js.blk (s.drop (j + 1)) else s.drop j := by
  rw [Asc.drop_cons h]
  cases hs : Js.sp s[j]
  · rw [Js.blk_no hs]; rfl
  · rw [Js.blk_sp hs]; rfl
set_option maxHeartbeats 1000000 in
theorem blanks_any {w0 W : World} {g k e0 : Nat} {s : List UInt8} {fs : List Fd} (h : DAt w0 g s k e0 fs W) (hk : k ≤ s.length) (hs : s.length ≤ 1000) :
    Calls Tryd.prog 33 #[.pointer (some ⟨g, 0, none⟩)] W fun e w' => e = .returned (.tuple #[]) ∧ ∃ j, j ≤ s.length ∧ s.drop j = Js.blk (s.drop k) ∧ DAt w0 g s j e0 fs w' := by
  have H0 := Lib.hid h
  clear h
  go_enter Tryd.func33, Tryd.ntmps33
  go_wp2_with fail
  go_loopg [2] (s.length - k) (fun m _ wr => ∃ j, j + m = s.length ∧ Js.blk (s.drop j) = Js.blk (s.drop k) ∧ DAt w0 g s j e0 fs wr)
  case atStart => exact ⟨k, by omega, rfl, H0.out⟩
  case round =>
    obtain ⟨j, hj, hb, hd⟩ := hrel
    have H := Lib.hid hd
    have h0 := hd.c0
    have h1 := hd.c1
    have HB := Lib.hid hb
    by_cases hlt : j < s.length
    · have t : decide ((j : Int) < (s.length : Int)) = true := decide_eq_true (by omega)
      have t' : decide (j < s.length) = true := decide_eq_true (by omega)
      have t2 : (j : Int) < (s.length : Int) := by omega
      have t3 : (0 : Int) ≤ (j : Int) := by omega
      obtain ⟨c, ⟨_, hy⟩, hcc, hc2⟩ := byte_at s j hlt
      have HSP := Lib.hid fun q => space_any c (wr.drewN q) hc2 (hd.drewN q).kinds
      have HST := Lib.hid (blk_step hlt)
      have HCS := Lib.hid (show Js.sp s[j] = Asc.isSpace c by unfold Js.sp; rw [hcc])
      clear hcc hd hb
      cases hsp : Asc.isSpace c
      · rw [hsp] at HSP HCS
        clear hsp
        go_wp2_with fail
        go_quiet ((go_at_call 54; exact q_same (HSP.out _)))
        go_wp2_with fail
        go_end0
        refine ⟨rfl, j, by omega, ?_, H.out.drewN _⟩
        rw [← HB.out, HST.out, HCS.out]; rfl
      · rw [hsp] at HSP HCS
        clear hsp
        go_wp2_with fail
        go_quiet ((go_at_call 54; exact q_same (HSP.out _)))
        obtain ⟨Wq, hWq⟩ : ∃ Wq, wr.drewN nq = Wq := ⟨_, rfl⟩
        have h3 := H.out.drewN nq
        rw [hWq] at h3 ⊢
        have H3 := Lib.hid (h3.at (j + 1))
        have d1 := h3.c1
        have f1 := h3.fz 1
        clear hWq h3
        go_wp2_with fail
        go_roundg (s.length - (j + 1))
        case measure => omega
        case rel => exact ⟨j + 1, by omega, by rw [← HB.out, HST.out, HCS.out]; rfl, H3.out⟩
    · have t : decide ((j : Int) < (s.length : Int)) = false := decide_eq_false (by omega)
      have t' : decide (j < s.length) = false := decide_eq_false (by omega)
      clear hd hb
      go_wp2_with fail
      go_quiet (fail)
      go_wp2_with fail
      go_end0
      refine ⟨rfl, j, by omega, ?_, H.out.drewN _⟩
      rw [← HB.out, List.drop_of_length_le (by omega)]; rfl

end Go.Proofs.YtfdbjgdafolbmaaDoor

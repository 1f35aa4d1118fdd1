/-
  The decoder: expect, text.
-/
import Derived.Test.YtfdbjgdafolbmaaDoorJsA
namespace Go.Proofs.YtfdbjgdafolbmaaDoor
open Go.RowKit Go.Sort Go.Shelf

theorem blanksOK {w0 W : World} {g : Nat} {s r : List UInt8} {fs : List Fd} (h : DOK w0 g s r fs W) (hs : s.length ≤ 1000) :
    Calls Tryd.prog 33 #[.pointer (some ⟨g, 0, none⟩)] W fun e w' => e = .returned (.tuple #[]) ∧ DOK w0 g s (Js.blk r) fs w' := by
  obtain ⟨k, hk, hr, hd, hl⟩ := h
  subst hr
  refine (blanks_any hd hk hs).mono fun e w' ⟨h1, j, hj, hb, h2⟩ => ⟨h1, j, hj, hb, h2, ?_⟩
  have := Js.blk_len (s.drop k)
  omega
theorem blanksER {w0 W : World} {g n c : Nat} {s : List UInt8} (h : DER w0 g s n c W) (hs : s.length ≤ 1000) :
    Calls Tryd.prog 33 #[.pointer (some ⟨g, 0, none⟩)] W fun e w' => e = .returned (.tuple #[]) ∧ DER w0 g s n c w' := by
  obtain ⟨hc, k, fs, hk, hd, hl⟩ := h
  exact (blanks_any hd hk hs).mono fun e w' ⟨h1, j, hj, hb, h2⟩ => ⟨h1, hc, j, fs, hj, h2, hl⟩
theorem failOK {w0 W : World} {g : Nat} {s r : List UInt8} {fs : List Fd} (h : DOK w0 g s r fs W) (c : Nat) (hc : c ≠ 0) :
    Calls Tryd.prog 34 #[.pointer (some ⟨g, 0, none⟩), .int .i64 c] W fun e w' => e = .returned (.tuple #[]) ∧ DER w0 g s s.length c w' := by
  obtain ⟨k, hk, hr, hd, hl⟩ := h
  exact (fail_ok hd c).mono fun e w' ⟨h1, h2⟩ => ⟨h1, hc, k, fs, hk, h2, by omega⟩
theorem failER {w0 W : World} {g n c : Nat} {s : List UInt8} (h : DER w0 g s n c W) (j : Nat) :
    Calls Tryd.prog 34 #[.pointer (some ⟨g, 0, none⟩), .int .i64 j] W fun e w' => e = .returned (.tuple #[]) ∧ DER w0 g s n c w' := by
  obtain ⟨hc, k, fs, hk, hd, hl⟩ := h
  exact (fail_er hd hc j).mono fun e w' ⟨h1, h2⟩ => ⟨h1, hc, k, fs, hk, h2, hl⟩

theorem expect_yes {w0 W : World} {g : Nat} {s r r' : List UInt8} {fs : List Fd} {c : UInt8} (h : DOK w0 g s r fs W) (hs : s.length ≤ 1000) (hx : Js.exp c r = some r') :
    Calls Tryd.prog 50 #[.pointer (some ⟨g, 0, none⟩), .string ⟨#[c]⟩] W fun e w' => e = .returned (.tuple #[]) ∧ DOK w0 g s r' fs w' := by
  have hb : Js.blk r = c :: r' := by
    unfold Js.exp at hx
    split at hx
    · rename_i h1
      injection hx with hx
      subst hx
      revert h1
      cases Js.blk r with
      | nil => intro h; cases h
      | cons d q => intro h; injection h with h; subst h; rfl
    · cases hx
  have HB := Lib.hid (blanksOK h hs)
  rw [hb] at HB
  have HT := Lib.hid fun W h => takes_yes (w0 := w0) (W := W) (g := g) (s := s) (r := r') (fs := fs) (c := c) h hs
  clear h hx hb
  go_enter Tryd.func50, Tryd.ntmps50
  go_wp2_with (go_at_call 33; refine HB.out.mono ?_)
  rintro e w1 ⟨rfl, hd⟩
  have H := Lib.hid hd
  clear hd
  go_wp2_with fail
  refine (HT.out w1 H.out).mono ?_
  rintro e w2 ⟨rfl, hd⟩
  have H2 := Lib.hid hd
  clear hd
  go_wp2_with fail
  go_end0
  exact ⟨rfl, H2.out⟩
theorem expect_no {w0 W : World} {g : Nat} {s r : List UInt8} {fs : List Fd} {c : UInt8} (h : DOK w0 g s r fs W) (hs : s.length ≤ 1000) (hx : Js.exp c r = none) :
    Calls Tryd.prog 50 #[.pointer (some ⟨g, 0, none⟩), .string ⟨#[c]⟩] W fun e w' => e = .returned (.tuple #[]) ∧ DER w0 g s s.length 1 w' := by
  have hb : (Js.blk r).head? ≠ some c := by
    unfold Js.exp at hx
    split at hx
    · cases hx
    · assumption
  have HB := Lib.hid (blanksOK h hs)
  have HT := Lib.hid fun W h => takes_no (w0 := w0) (W := W) (g := g) (s := s) (r := Js.blk r) (fs := fs) (c := c) h hb
  clear h hx hb
  go_enter Tryd.func50, Tryd.ntmps50
  go_wp2_with (go_at_call 33; refine HB.out.mono ?_)
  rintro e w1 ⟨rfl, hd⟩
  have H := Lib.hid hd
  clear hd
  go_wp2_with fail
  refine (HT.out w1 H.out).mono ?_
  rintro e w2 ⟨rfl, hd⟩
  have H2 := Lib.hid hd
  clear hd
  go_wp2_with fail
  refine (failOK H2.out 1 (by decide)).mono ?_
  rintro e w3 ⟨rfl, hd⟩
  have H3 := Lib.hid hd
  clear hd
  go_wp2_with fail
  go_end0
  exact ⟨rfl, H3.out⟩
theorem expectER {w0 W : World} {g n j : Nat} {s : List UInt8} {c : UInt8} (h : DER w0 g s n j W) (hs : s.length ≤ 1000) :
    Calls Tryd.prog 50 #[.pointer (some ⟨g, 0, none⟩), .string ⟨#[c]⟩] W fun e w' => e = .returned (.tuple #[]) ∧ DER w0 g s n j w' := by
  have HB := Lib.hid (blanksER h hs)
  clear h
  go_enter Tryd.func50, Tryd.ntmps50
  go_wp2_with (go_at_call 33; refine HB.out.mono ?_)
  rintro e w1 ⟨rfl, hd⟩
  have H := Lib.hid hd
  clear hd
  go_wp2_with fail
  refine (takesER H.out [c]).mono ?_
  rintro e w2 ⟨rfl, hd⟩
  have H2 := Lib.hid hd
  clear hd
  go_wp2_with fail
  refine (failER H2.out 1).mono ?_
  rintro e w3 ⟨rfl, hd⟩
  have H3 := Lib.hid hd
  clear hd
  go_wp2_with fail
  go_end0
  exact ⟨rfl, H3.out⟩

/-! Text. -/
theorem own_keep2 {W W' : World} {B E z n : Nat} {v : Value} {xs : List Value} (h : W.ownsRow B E z v n xs) (hb : ∀ k, v.ownBlock = some k → W'.heap[k]? = W.heap[k]?) : W'.ownsRow B E z v n xs := by
  obtain ⟨h1, h2⟩ := h
  refine ⟨h1, h2.imp id ?_⟩
  rintro ⟨g, cap, cur, rfl, hB, hg, rest⟩
  exact ⟨g, cap, cur, rfl, hB, by rw [hb g rfl]; exact hg, rest⟩
/-- What the loop of text keeps: the decoder, all of it below B; the bytes so far, from B on. -/
structure TI (w0 : World) (g : Nat) (s : List UInt8) (k e : Nat) (fs : List Fd) (B : Nat) (acc : List UInt8) (v : Value) (W : World) : Prop where
  d : DAt w0 g s k e fs W
  hB : B ≤ W.heap.size
  gB : g < B
  rowB : ∀ u, W.cell? ⟨g, 3, none⟩ = some u → ∀ b, u.ownBlock = some b → b < B
  own : W.ownsRow B 5 1 v acc.length (Lib.byteCells acc)
theorem TI.start {w0 W : World} {g k e : Nat} {s : List UInt8} {fs : List Fd} (h : DAt w0 g s k e fs W) : TI w0 g s k e fs W.heap.size [] (.slice none 0 0) W := by
  refine ⟨h, Nat.le_refl _, h.hi, fun u hu b hb => ?_, ⟨rfl, .inl ⟨rfl, rfl⟩⟩⟩
  obtain ⟨v, h1, h2, _⟩ := h.c3
  rw [h1] at hu
  injection hu with hu
  subst hu
  exact (h2.lt b hb).2
theorem TI.drewN {w0 W : World} {g k e B : Nat} {s acc : List UInt8} {fs : List Fd} {v : Value} (h : TI w0 g s k e fs B acc v W) (q : Nat) : TI w0 g s k e fs B acc v (W.drewN q) :=
  ⟨h.d.drewN q, h.hB, h.gB, h.rowB, own_keep h.own fun _ _ _ => rfl⟩
theorem TI.at {w0 W : World} {g k e B : Nat} {s acc : List UInt8} {fs : List Fd} {v : Value} (h : TI w0 g s k e fs B acc v W) (j : Nat) : TI w0 g s j e fs B acc v (W.setCell ⟨g, 1, none⟩ (.int .i64 j)) := by
  refine ⟨h.d.at j, by simpa using h.hB, h.gB, fun u hu => h.rowB u ?_, own_keep h.own fun i hi _ => Below.heap_setCell _ _ _ i (by have := h.gB; simp; omega)⟩
  rwa [World.cell?_setCell_other _ _ _ _ (ne_off (by decide))] at hu
theorem TI.er {w0 W : World} {g k e B : Nat} {s acc : List UInt8} {fs : List Fd} {v : Value} (h : TI w0 g s k e fs B acc v W) (j : Nat) : TI w0 g s k j fs B acc v (W.setCell ⟨g, 2, none⟩ (.int .i64 j)) := by
  refine ⟨h.d.er j, by simpa using h.hB, h.gB, fun u hu => h.rowB u ?_, own_keep h.own fun i hi _ => Below.heap_setCell _ _ _ i (by have := h.gB; simp; omega)⟩
  rwa [World.cell?_setCell_other _ _ _ _ (ne_off (by decide))] at hu
theorem TI.qt {w0 W W' : World} {g k e B : Nat} {s acc : List UInt8} {fs : List Fd} {v : Value} (h : TI w0 g s k e fs B acc v W) (q : Qt W W') : TI w0 g s k e fs B acc v W' := by
  obtain ⟨n, rfl⟩ := q
  exact h.drewN n
theorem TI.push {w0 W W' : World} {g k e B : Nat} {s acc : List UInt8} {fs : List Fd} {v v' : Value} {o : Obj} (h : TI w0 g s k e fs B acc v W) (c : UInt8) (ho : W'.ownsRow B 5 1 v' (acc.length + 1) (Lib.byteCells acc ++ [.int .u8 (c.toNat : Int)])) (hg : (W.alloc o).grownBy W' v.ownBlock) : TI w0 g s k e fs B (acc ++ [c]) v' W' := by
  have hb : Below B W W' := ((Below.refl _ W).alloc h.hB _).grown hg (by have := h.hB; simp; omega) (fun k hk => (h.own.lt k hk).1)
  obtain ⟨u, h1, h2, h3⟩ := h.d.c3
  have c3 := (hb.cell (p := ⟨g, 3, none⟩) h.gB).trans h1
  refine ⟨⟨(hb.cell (p := ⟨g, 0, none⟩) h.gB).trans h.d.c0, (hb.cell (p := ⟨g, 1, none⟩) h.gB).trans h.d.c1, (hb.cell (p := ⟨g, 2, none⟩) h.gB).trans h.d.c2, ⟨u, c3, own_keep2 h2 fun b hb' => hb.block b (h.rowB u h1 b hb'), h3⟩,
    fun i => (hb.frozen (p := ⟨g, i, none⟩) h.gB).trans (h.d.fz i), h.d.lo, Nat.lt_of_lt_of_le h.d.hi hb.size, h.d.below.trans (hb.mono (by have := h.d.lo; have := h.gB; omega)), h.d.k0⟩, Nat.le_trans h.hB hb.size, h.gB, fun u' hu' => h.rowB u' ?_, ?_⟩
  · rw [c3] at hu'; rw [h1]; exact hu'
  · have e : Lib.byteCells (acc ++ [c]) = Lib.byteCells acc ++ [.int .u8 (c.toNat : Int)] := by simp [Lib.byteCells]
    rw [e, List.length_append]
    exact ho

namespace Js
theorem txtL_low {c : UInt8} {r acc : List UInt8} (h : c.toNat < 32) : txtL (c :: r) acc = none := by cases r <;> simp [txtL, h]
theorem txtL_q {r acc : List UInt8} : txtL (34 :: r) acc = some (acc, r) := by cases r <;> (rw [txtL, if_neg (by decide), if_pos rfl])
theorem txtL_o {c : UInt8} {r acc : List UInt8} (h : ¬ c.toNat < 32) (h1 : c ≠ 34) (h2 : c ≠ 92) : txtL (c :: r) acc = txtL r (acc ++ [c]) := by
  cases r with
  | nil => simp [txtL, h1]
  | cons d r => rw [txtL, if_neg h, if_neg h1, if_neg h2]
theorem txtL_b {d x : UInt8} {r acc : List UInt8} (h : unesc d = some x) : txtL (92 :: d :: r) acc = txtL r (acc ++ [x]) := by
  rw [txtL, if_neg (by decide), if_neg (by decide), if_pos rfl, h]
theorem txtL_bn {r acc : List UInt8} (h : ∀ d q, r = d :: q → unesc d = none) : txtL (92 :: r) acc = none := by
  cases r with
  | nil => simp [txtL]
  | cons d r => rw [txtL, if_neg (by decide), if_neg (by decide), if_pos rfl, h d r rfl]
end Js

def TxtPost (w0 : World) (g : Nat) (s : List UInt8) (fs : List Fd) (res : Option (List UInt8 × List UInt8)) (e : Ending) (w' : World) : Prop :=
  match res with
  | some x => e = .returned (.string ⟨x.1.toArray⟩) ∧ DOK w0 g s x.2 fs w'
  | none => e = .returned (.string ⟨#[]⟩) ∧ DER w0 g s s.length 1 w'
def TRel (w0 : World) (g : Nat) (s : List UInt8) (k0 : Nat) (fs : List Fd) (B : Nat) (R : Option (List UInt8 × List UInt8)) (m : Nat) (v : Value) (W : World) : Prop :=
  ∃ k acc e, TI w0 g s k e fs B acc v W ∧ k0 ≤ k ∧ k ≤ s.length ∧ acc.length ≤ k ∧ ((e = 0 ∧ m = s.length - k + 1 ∧ Js.txtL (s.drop k) acc = R) ∨ (e = 1 ∧ m = 0 ∧ R = none))

theorem text_none {w0 W : World} {g : Nat} {s r : List UInt8} {fs : List Fd} (h : DOK w0 g s r fs W) (hs : s.length ≤ 1000) (hx : Js.exp 34 r = none) :
    Calls Tryd.prog 52 #[.pointer (some ⟨g, 0, none⟩)] W (TxtPost w0 g s fs none) := by
  have HE := Lib.hid (expect_no h hs hx)
  clear h hx
  go_enter Tryd.func52, Tryd.ntmps52
  go_wp2_with (go_at_call 50; refine HE.out.mono ?_)
  rintro e w1 ⟨rfl, hc, k, fs', hk, hd, hl⟩
  have c2 := hd.c2
  have H := Lib.hid (show DER w0 g s s.length 1 w1 from ⟨hc, k, fs', hk, hd, hl⟩)
  clear hc hd hl
  go_wp2_with fail
  refine wp_loop_rounds 1 ?_
  rw [rounds_succ]
  go_wp2_with fail
  go_ret
  exact ⟨rfl, H.out⟩

end Go.Proofs.YtfdbjgdafolbmaaDoor

/-
  A row of fields that is changed in place; swapRangeCmpFunc, rotateCmpFunc.
-/
import Derived.Test.YtfdbjgdafolbmaaDoorSoZ
import Derived.BigRegion
import Derived.RegionTactic
import Derived.IntWalk
import Derived.Sort.LotA
namespace Go.Proofs.YtfdbjgdafolbmaaDoor
open Go.RowKit Go.Sort Go.Shelf

/-- The row d at the block blk, which was made since w0. -/
structure RW (w0 : World) (blk : Nat) (d : Array Fd) (W : World) : Prop where
  cell : ∀ i, i < d.size → W.cell? ⟨blk, i * 2, none⟩ = some (.string ⟨(d[i]!).1.toArray⟩) ∧ W.cell? ⟨blk, i * 2 + 1, none⟩ = some (.string ⟨(d[i]!).2.toArray⟩)
  fz : ∀ i, W.frozen? ⟨blk, i, none⟩ = false
  lo : w0.heap.size ≤ blk
  hi : blk < W.heap.size
  below : RowKit.Below w0.heap.size w0 W
theorem RW.later {w0 W W' : World} {blk : Nat} {d : Array Fd} (h : RW w0 blk d W) (hb : RowKit.Below W.heap.size W W') : RW w0 blk d W' :=
  ⟨fun i hi => ⟨(hb.cell (p := ⟨blk, i * 2, none⟩) h.hi).trans (h.cell i hi).1, (hb.cell (p := ⟨blk, i * 2 + 1, none⟩) h.hi).trans (h.cell i hi).2⟩, fun i => (hb.frozen (p := ⟨blk, i, none⟩) h.hi).trans (h.fz i), h.lo, Nat.lt_of_lt_of_le h.hi hb.size, h.below.trans (hb.mono h.below.size)⟩
/-- The world behind an exchange. -/
def swW (W : World) (blk i j : Nat) (x y : Fd) : World :=
  ((((W.setCell ⟨blk, i * 2, none⟩ (.string ⟨y.1.toArray⟩)).setCell ⟨blk, i * 2 + 1, none⟩ (.string ⟨y.2.toArray⟩)).setCell ⟨blk, j * 2, none⟩ (.string ⟨x.1.toArray⟩)).setCell ⟨blk, j * 2 + 1, none⟩ (.string ⟨x.2.toArray⟩)).drew
theorem RW.swap {w0 W : World} {blk : Nat} {d : Array Fd} (h : RW w0 blk d W) (i j : Nat) (hi : i < d.size) (hj : j < d.size) (hij : i ≠ j) : RW w0 blk (swp d i j) (swW W blk i j d[i]! d[j]!) := by
  unfold swW
  have hb : ∀ W : World, RowKit.Below W.heap.size W W.drew := fun W => (Below.refl _ W).drew
  refine RW.later ⟨fun k hk => ?_, fun k => by simp only [World.frozen?_setCell]; exact h.fz k, h.lo, by simpa using h.hi, (((h.below.setCell (p := ⟨blk, i * 2, none⟩) h.lo _).setCell (p := ⟨blk, i * 2 + 1, none⟩) h.lo _).setCell (p := ⟨blk, j * 2, none⟩) h.lo _).setCell (p := ⟨blk, j * 2 + 1, none⟩) h.lo _⟩ (hb _)
  rw [size_swp] at hk
  obtain ⟨h1, h2⟩ := h.cell i hi
  obtain ⟨h3, h4⟩ := h.cell j hj
  obtain ⟨h5, h6⟩ := h.cell k hk
  by_cases e1 : k = j
  · subst e1
    rw [swp_right d i k hk]
    constructor
    · rw [World.cell?_setCell_other _ _ _ _ (ne_off (by omega))]
      exact World.cell?_setCell_same _ _ _ (((World.cell?_setCell_other _ _ _ _ (ne_off (by omega))).trans (World.cell?_setCell_other _ _ _ _ (ne_off (by omega)))).trans h3)
    · exact World.cell?_setCell_same _ _ _ ((((World.cell?_setCell_other _ _ _ _ (ne_off (by omega))).trans (World.cell?_setCell_other _ _ _ _ (ne_off (by omega)))).trans (World.cell?_setCell_other _ _ _ _ (ne_off (by omega)))).trans h4)
  · by_cases e2 : k = i
    · subst e2
      rw [swp_left d k j hk hij]
      constructor
      · rw [World.cell?_setCell_other _ _ _ _ (ne_off (by omega)), World.cell?_setCell_other _ _ _ _ (ne_off (by omega)), World.cell?_setCell_other _ _ _ _ (ne_off (by omega))]
        exact World.cell?_setCell_same _ _ _ h1
      · rw [World.cell?_setCell_other _ _ _ _ (ne_off (by omega)), World.cell?_setCell_other _ _ _ _ (ne_off (by omega))]
        exact World.cell?_setCell_same _ _ _ ((World.cell?_setCell_other _ _ _ _ (ne_off (by omega))).trans h2)
    · rw [swp_other d i j k e2 e1]
      constructor
      · rw [World.cell?_setCell_other _ _ _ _ (ne_off (by omega)), World.cell?_setCell_other _ _ _ _ (ne_off (by omega)), World.cell?_setCell_other _ _ _ _ (ne_off (by omega)), World.cell?_setCell_other _ _ _ _ (ne_off (by omega))]; exact h5
      · rw [World.cell?_setCell_other _ _ _ _ (ne_off (by omega)), World.cell?_setCell_other _ _ _ _ (ne_off (by omega)), World.cell?_setCell_other _ _ _ _ (ne_off (by omega)), World.cell?_setCell_other _ _ _ _ (ne_off (by omega))]; exact h6

def swR (d : Array Fd) (a b : Nat) : Nat → Array Fd
  | 0 => d
  | t + 1 => swp (swR d a b t) (a + t) (b + t)
theorem swR_size (d : Array Fd) (a b t : Nat) : (swR d a b t).size = d.size := by
  induction t with
  | zero => rfl
  | succ t ih => rw [swR, size_swp, ih]
theorem swR_perm (d : Array Fd) (a b lo hi : Nat) : ∀ t, a + t ≤ b → lo ≤ a → b + t ≤ hi → hi ≤ d.size → PermIn lo hi d (swR d a b t) := by
  intro t
  induction t with
  | zero => intro _ _ _ _; exact permIn_refl _ _ _
  | succ t ih =>
    intro h1 h2 h3 h4
    exact permIn_trans _ _ _ _ _ (ih (by omega) h2 (by omega) h4) (swp_permIn _ _ _ _ _ (by omega) (by omega) (by omega) (by omega) (by rw [swR_size]; exact h4))
theorem swR_get (d : Array Fd) (a b : Nat) : ∀ t, a + t ≤ b → b + t ≤ d.size → ∀ p,
    (a ≤ p → p < a + t → (swR d a b t)[p]! = d[b + (p - a)]!) ∧ (b ≤ p → p < b + t → (swR d a b t)[p]! = d[a + (p - b)]!) ∧ ((p < a ∨ a + t ≤ p) → (p < b ∨ b + t ≤ p) → (swR d a b t)[p]! = d[p]!) := by
  intro t
  induction t with
  | zero => intro _ _ p; exact ⟨fun _ _ => by omega, fun _ _ => by omega, fun _ _ => rfl⟩
  | succ t ih =>
    intro h1 h2 p
    obtain ⟨a1, a2, a3⟩ := ih (by omega) (by omega) p
    rw [swR]
    have hs := swR_size d a b t
    by_cases e1 : p = b + t
    · subst e1
      rw [swp_right _ _ _ (by omega)]
      obtain ⟨_, _, c3⟩ := ih (by omega) (by omega) (a + t)
      rw [c3 (by omega) (by omega)]
      refine ⟨fun _ _ => by omega, fun _ _ => ?_, fun _ _ => by omega⟩
      rw [show a + (b + t - b) = a + t by omega]
    · by_cases e2 : p = a + t
      · subst e2
        rw [swp_left _ _ _ (by omega) (by omega)]
        obtain ⟨_, _, c3⟩ := ih (by omega) (by omega) (b + t)
        rw [c3 (by omega) (by omega)]
        refine ⟨fun _ _ => ?_, fun _ _ => by omega, fun _ _ => by omega⟩
        rw [show b + (a + t - a) = b + t by omega]
      · rw [swp_other _ _ _ _ e2 e1]
        exact ⟨fun h h' => a1 h (by omega), fun h h' => a2 h (by omega), fun h h' => a3 (by omega) (by omega)⟩

set_option maxRecDepth 100000 in
set_option maxHeartbeats 2000000 in
theorem swapRange_any {w0 W : World} {blk : Nat} {d : Array Fd} (cap a b n : Nat) (f : Value) (h : RW w0 blk d W) (hab : a + n ≤ b) (hb : b + n ≤ d.size) (hd : d.size ≤ 1000) :
    Calls Tryd.prog 74 #[.slice (some ⟨blk, 0, none⟩) d.size cap, .int .i64 a, .int .i64 b, .int .i64 n, f] W fun e w' => e = .returned (.tuple #[]) ∧ RW w0 blk (swR d a b n) w' := by
  have H0 := Lib.hid h
  clear h
  go_enter Tryd.func74, Tryd.ntmps74
  go_wp2_with fail
  go_loopw [10] (fun i wr => ∃ t : Nat, t ≤ n ∧ i = .int .i64 t ∧ RW w0 blk (swR d a b t) wr) (fun i _ => n - (intOf i).toNat)
  case atStart => exact ⟨0, by omega, rfl, H0.out⟩
  case round =>
    obtain ⟨t, ht, rfl, hR⟩ := hrel
    have HR := Lib.hid hR
    clear hR H0
    by_cases hlt : t < n
    · have hl := swR_size d a b t
      obtain ⟨p1, p2⟩ := HR.out.cell (a + t) (by omega)
      obtain ⟨q1, q2⟩ := HR.out.cell (b + t) (by omega)
      have HN := Lib.hid (HR.out.swap (a + t) (b + t) (by omega) (by omega) (by omega))
      have f1 := HR.out.fz ((a + t) * 2)
      have f2 := HR.out.fz ((a + t) * 2 + 1)
      have f3 := HR.out.fz ((b + t) * 2)
      have f4 := HR.out.fz ((b + t) * 2 + 1)
      clear HR hl
      rw [show swp (swR d a b t) (a + t) (b + t) = swR d a b (t + 1) from rfl] at HN
      generalize (swR d a b t)[a + t]! = x at *
      generalize (swR d a b t)[b + t]! = y at *
      have i1 : (0 : Int) ≤ (a : Int) + (t : Int) := by omega
      have i2 : (a : Int) + (t : Int) < (d.size : Int) := by omega
      have i3 : (0 : Int) ≤ (b : Int) + (t : Int) := by omega
      have i4 : (b : Int) + (t : Int) < (d.size : Int) := by omega
      have i5 : ((a : Int) + (t : Int)).toNat = a + t := by omega
      have i6 : ((b : Int) + (t : Int)).toNat = b + t := by omega
      have i7 : IntKind.i64.wrap ((a : Int) + (t : Int)) = (a : Int) + (t : Int) := IntWalk.i64_in _ ⟨by omega, by omega⟩
      have i8 : IntKind.i64.wrap ((b : Int) + (t : Int)) = (b : Int) + (t : Int) := IntWalk.i64_in _ ⟨by omega, by omega⟩
      go_wp2_with fail
      go_region
      go_wp2_with fail
      go_roundw
      case rel => exact ⟨t + 1, by omega, by go_num, HN.out⟩
      case measure => simp [intOf]; omega
    · obtain rfl : t = n := by omega
      go_wp2_with fail
      go_end0
      exact ⟨rfl, HR.out⟩

/-- d' is d with its parts [a, m) and [m, b) exchanged. -/
structure Rot (d : Array Fd) (a m b : Nat) (d' : Array Fd) : Prop where
  perm : PermIn a b d d'
  lo : ∀ p, a ≤ p → p < a + (b - m) → d'[p]! = d[m + (p - a)]!
  hi : ∀ p, a + (b - m) ≤ p → p < b → d'[p]! = d[a + (p - (a + (b - m)))]!
theorem rot_end (D : Array Fd) (p i m : Nat) (hp : p + i = m) (hb : m + i ≤ D.size) : Rot D p m (m + i) (swR D p m i) := by
  refine ⟨swR_perm D p m p (m + i) i (by omega) (Nat.le_refl _) (Nat.le_refl _) hb, fun q h1 h2 => ?_, fun q h1 h2 => ?_⟩
  · exact (swR_get D p m i (by omega) hb q).1 h1 (by omega)
  · rw [(swR_get D p m i (by omega) hb q).2.1 (by omega) (by omega)]
    rw [show p + (q - m) = p + (q - (p + (m + i - m))) by omega]
theorem rot_1 (D d' : Array Fd) (p j m : Nat) (hp : p + j < m) (hb : m + j ≤ D.size) (h : Rot (swR D p m j) (p + j) m (m + j) d') : Rot D p m (m + j) d' := by
  have hg := swR_get D p m j (by omega) hb
  refine ⟨permIn_trans _ _ _ _ _ (swR_perm D p m p (m + j) j (by omega) (Nat.le_refl _) (Nat.le_refl _) hb) (permIn_mono _ _ _ _ _ _ (by omega) (Nat.le_refl _) (by rw [swR_size]; exact hb) h.perm), fun q h1 h2 => ?_, fun q h1 h2 => ?_⟩
  · rw [h.perm.2.1 q (by omega)]
    exact (hg q).1 h1 (by omega)
  · by_cases c : q < p + j + j
    · rw [h.lo q (by omega) (by omega), (hg _).2.1 (by omega) (by omega)]
      rw [show p + (m + (q - (p + j)) - m) = p + (q - (p + (m + j - m))) by omega]
    · rw [h.hi q (by omega) (by omega), (hg _).2.2 (by omega) (by omega)]
      rw [show p + j + (q - (p + j + (m + j - m))) = p + (q - (p + (m + j - m))) by omega]
theorem rot_2 (D d' : Array Fd) (p i j m : Nat) (hp : p + i = m) (hij : i < j) (hb : m + j ≤ D.size) (h : Rot (swR D p (m + j - i) i) p m (m + (j - i)) d') : Rot D p m (m + j) d' := by
  have hg := swR_get D p (m + j - i) i (by omega) (by omega)
  refine ⟨permIn_trans _ _ _ _ _ (swR_perm D p (m + j - i) p (m + j) i (by omega) (Nat.le_refl _) (by omega) hb) (permIn_mono _ _ _ _ _ _ (Nat.le_refl _) (by omega) (by rw [swR_size]; exact hb) h.perm), fun q h1 h2 => ?_, fun q h1 h2 => ?_⟩
  · by_cases c : q < p + (j - i)
    · rw [h.lo q h1 (by omega), (hg _).2.2 (by omega) (by omega)]
    · rw [h.hi q (by omega) (by omega), (hg _).1 (by omega) (by omega)]
      rw [show m + j - i + (p + (q - (p + (m + (j - i) - m))) - p) = m + (q - p) by omega]
  · rw [h.perm.2.1 q (by omega), (hg q).2.1 (by omega) (by omega)]
    rw [show p + (q - (m + j - i)) = p + (q - (p + (m + j - m))) by omega]

set_option maxRecDepth 100000 in
set_option maxHeartbeats 2000000 in
theorem rotate_any {w0 W : World} {blk : Nat} {d : Array Fd} (cap a m b : Nat) (f : Value) (h : RW w0 blk d W) (ham : a < m) (hmb : m < b) (hb : b ≤ d.size) (hd : d.size ≤ 1000) :
    Calls Tryd.prog 72 #[.slice (some ⟨blk, 0, none⟩) d.size cap, .int .i64 a, .int .i64 m, .int .i64 b, f] W fun e w' => e = .returned (.tuple #[]) ∧ ∃ d', Rot d a m b d' ∧ RW w0 blk d' w' := by
  have H0 := Lib.hid h
  clear h
  have e1 : (m : Int) - (a : Int) = ((m - a : Nat) : Int) := by omega
  have e2 : (b : Int) - (m : Int) = ((b - m : Nat) : Int) := by omega
  have E1 := Lib.hid e1
  have E2 := Lib.hid e2
  clear e1 e2
  go_enter Tryd.func72, Tryd.ntmps72
  go_wp2_with fail
  rw [E1.out, E2.out]
  go_loopg [10, 11] (b - a) (fun z i j wr => ∃ (s t : Nat) (D : Array Fd), i = .int .i64 s ∧ j = .int .i64 t ∧ s + t = z ∧ 0 < s ∧ 0 < t ∧ a + s ≤ m ∧ m + t ≤ b ∧ D.size = d.size ∧ (∀ d', Rot D (m - s) m (m + t) d' → Rot d a m b d') ∧ RW w0 blk D wr)
  case atStart => exact ⟨m - a, b - m, d, rfl, rfl, by omega, by omega, by omega, by omega, by omega, rfl, fun d' h => by rw [show m - (m - a) = a by omega, show m + (b - m) = b by omega] at h; exact h, H0.out⟩
  case round =>
    obtain ⟨s, t, D, rfl, rfl, hz, hs, ht, h1, h2, hsz, hrot, hR⟩ := hrel
    have HR := Lib.hid hR
    have HT := Lib.hid hrot
    have HSZ := Lib.hid hsz
    clear hR hrot hsz H0
    by_cases hst : s = t
    · subst hst
      have t1 : ((s : Int) != (s : Int)) = false := by simp
      have HC := Lib.hid (swapRange_any cap (m - s) m s f HR.out (by omega) (by rw [HSZ.out]; omega) (by rw [HSZ.out]; exact hd))
      rw [HSZ.out] at HC
      have e3 : (m : Int) - (s : Int) = ((m - s : Nat) : Int) := by omega
      have E3 := Lib.hid e3
      clear e3
      go_wp2_with fail
      rw [E3.out]
      refine HC.out.mono ?_
      rintro e w2 ⟨rfl, h5⟩
      have H5 := Lib.hid h5
      clear h5
      go_wp2_with fail
      go_end0
      exact ⟨rfl, _, HT.out _ (rot_end D (m - s) s m (by omega) (by rw [HSZ.out]; omega)), H5.out⟩
    · have t1 : ((s : Int) != (t : Int)) = true := by rw [bne_iff_ne]; omega
      by_cases hgt : t < s
      · have t2 : decide ((t : Int) < (s : Int)) = true := decide_eq_true (by omega)
        have HC := Lib.hid (swapRange_any cap (m - s) m t f HR.out (by omega) (by rw [HSZ.out]; omega) (by rw [HSZ.out]; exact hd))
        rw [HSZ.out] at HC
        have e3 : (m : Int) - (s : Int) = ((m - s : Nat) : Int) := by omega
        have e4 : (s : Int) - (t : Int) = ((s - t : Nat) : Int) := by omega
        have E3 := Lib.hid e3
        have E4 := Lib.hid e4
        clear e3 e4
        go_wp2_with fail
        rw [E3.out]
        refine HC.out.mono ?_
        rintro e w2 ⟨rfl, h5⟩
        have H5 := Lib.hid h5
        clear h5
        go_wp2_with fail
        go_roundg s
        case measure => omega
        case rel => exact ⟨s - t, t, _, by rw [E4.out], rfl, by omega, by omega, ht, by omega, h2, by rw [swR_size]; exact HSZ.out, fun d' h => HT.out d' (rot_1 D d' (m - s) t m (by omega) (by rw [HSZ.out]; omega) (by rw [show m - s + t = m - (s - t) by omega]; exact h)), H5.out⟩
      · have t2 : decide ((t : Int) < (s : Int)) = false := decide_eq_false (by omega)
        have HC := Lib.hid (swapRange_any cap (m - s) (m + t - s) s f HR.out (by omega) (by rw [HSZ.out]; omega) (by rw [HSZ.out]; exact hd))
        rw [HSZ.out] at HC
        have e3 : (m : Int) - (s : Int) = ((m - s : Nat) : Int) := by omega
        have e4 : (t : Int) - (s : Int) = ((t - s : Nat) : Int) := by omega
        have e5 : (m : Int) + (t : Int) - (s : Int) = ((m + t - s : Nat) : Int) := by omega
        have E3 := Lib.hid e3
        have E4 := Lib.hid e4
        have E5 := Lib.hid e5
        clear e3 e4 e5
        go_wp2_with fail
        rw [E3.out, E5.out]
        refine HC.out.mono ?_
        rintro e w2 ⟨rfl, h5⟩
        have H5 := Lib.hid h5
        clear h5
        go_wp2_with fail
        go_roundg t
        case measure => omega
        case rel => exact ⟨s, t - s, _, rfl, by rw [E4.out], by omega, hs, by omega, h1, by omega, by rw [swR_size]; exact HSZ.out, fun d' h => HT.out d' (rot_2 D d' (m - s) s t m (by omega) (by omega) (by rw [HSZ.out]; omega) h), H5.out⟩

end Go.Proofs.YtfdbjgdafolbmaaDoor

/-
  The list of choices hands out names, values, words, times and weights.
-/
import Derived.Test.YtmcnhphmglmmeabDoorExtE
import Derived.Test.YtmcnhphmglmmeabDoorDraw
namespace Go.Proofs.YtmcnhphmglmmeabDoor
open Go.RowKit

theorem short {fs : List (List UInt8)} {n : Nat} (h : fs.all (fun b => decide (b.length ≤ n)) = true) {x : List UInt8} (hx : x ∈ fs) : x.length ≤ n := by
  have := List.all_eq_true.1 h x hx
  simpa using this
def StrP (n g : Nat) (w : World) (e : Ending) (w' : World) : Prop := ∃ x : List UInt8, x.length ≤ n ∧ e = .returned (.string ⟨x.toArray⟩) ∧ CodesAt w' g ∧ Apart g w w'
def IntP (m g : Nat) (w : World) (e : Ending) (w' : World) : Prop := ∃ k : Nat, k ≤ m ∧ e = .returned (.int .i64 k) ∧ CodesAt w' g ∧ Apart g w w'
def LitP (g : Nat) (w : World) (fs : List (List UInt8)) (e : Ending) (w' : World) : Prop :=
  ∃ (k : Nat) (x : List UInt8), k < fs.length ∧ x ∈ fs ∧ e = .returned (.int .i64 k) ∧ w'.cell? ⟨w.heap.size, k, none⟩ = some (.string ⟨x.toArray⟩) ∧ CodesAt w' g ∧ Apart g w w'
theorem lit_next (g : Nat) (w : World) (fs : List (List UInt8)) (hc : CodesAt w g) (h0 : 0 < fs.length) (h1 : fs.length ≤ 1000) :
    Calls Tryd.prog 15 #[.pointer (some ⟨g, 0, none⟩), .int .i64 fs.length] (w.alloc (.cells (fs.map fun f => Value.string ⟨f.toArray⟩).toArray 9)) (LitP g w fs) := by
  have hb : Below w.heap.size w (w.alloc (.cells (fs.map fun f => Value.string ⟨f.toArray⟩).toArray 9)) := (Below.refl _ w).alloc (Nat.le_refl _) _
  refine (next_any g fs.length _ (hc.below hb) h0 (by omega)).mono ?_
  rintro e w' ⟨k, hk, rfl, h2, h3⟩
  refine ⟨k, fs[k], hk, List.getElem_mem hk, rfl, ?_, h2, (Apart.of_below hb hc.1).trans h3⟩
  rw [h3.cell (p := ⟨w.heap.size, k, none⟩) (by have := hc.1; simp; omega) (by simp)]
  simp [go_sem, hk]

def nameF : List (List UInt8) := [[108, 101, 118, 101, 108], [109, 115], [117, 115, 101, 114], [99, 111, 100, 101]]
theorem dname_any (g : Nat) (w : World) (hc : CodesAt w g) : Calls Tryd.prog 7 #[.pointer (some ⟨g, 0, none⟩)] w (StrP 5 g w) := by
  have HN : Hid (Calls Tryd.prog 15 #[.pointer (some ⟨g, 0, none⟩), .int .i64 4] (w.alloc (.cells #[.string ⟨#[108, 101, 118, 101, 108]⟩, .string ⟨#[109, 115]⟩, .string ⟨#[117, 115, 101, 114]⟩, .string ⟨#[99, 111, 100, 101]⟩] 9)) (LitP g w nameF)) := lit_next g w nameF hc (by decide) (by decide)
  clear hc
  go_enter Tryd.func7, Tryd.ntmps7
  go_wp2_with fail
  refine HN.out.mono ?_
  rintro e w1 ⟨k, x, hk, hx, rfl, hcell, hca, hap⟩
  have hl := short (fs := nameF) (n := 5) (by decide) hx
  have hk2 : k < 4 := hk
  have i1 : (k : Int) < 4 := by omega
  have i2 : (0 : Int) ≤ (k : Int) := by omega
  have HC := Lib.hid hca
  have HA := Lib.hid hap
  clear hca hap hx hk HN
  go_wp2_with fail
  go_ret
  exact ⟨x, hl, rfl, HC.out, HA.out⟩
def valueF : List (List UInt8) := [[119, 97, 114, 110], [105, 110, 102, 111], [55], [45, 51], [51, 49], [], [120, 32, 121], [57, 57, 57, 57, 57, 57, 57, 57, 57, 57, 57, 57, 57, 57, 57, 57, 57, 57], [49, 48, 48, 48, 48, 48, 48, 48, 48, 48, 48, 48, 48, 48, 48, 48, 48, 48, 48], [48, 55], [45]]
theorem dvalue_any (g : Nat) (w : World) (hc : CodesAt w g) : Calls Tryd.prog 12 #[.pointer (some ⟨g, 0, none⟩)] w (StrP 19 g w) := by
  have HN : Hid (Calls Tryd.prog 15 #[.pointer (some ⟨g, 0, none⟩), .int .i64 11] (w.alloc (.cells #[.string ⟨#[119, 97, 114, 110]⟩, .string ⟨#[105, 110, 102, 111]⟩, .string ⟨#[55]⟩, .string ⟨#[45, 51]⟩, .string ⟨#[51, 49]⟩, .string ⟨#[]⟩, .string ⟨#[120, 32, 121]⟩, .string ⟨#[57, 57, 57, 57, 57, 57, 57, 57, 57, 57, 57, 57, 57, 57, 57, 57, 57, 57]⟩, .string ⟨#[49, 48, 48, 48, 48, 48, 48, 48, 48, 48, 48, 48, 48, 48, 48, 48, 48, 48, 48]⟩, .string ⟨#[48, 55]⟩, .string ⟨#[45]⟩] 9)) (LitP g w valueF)) := lit_next g w valueF hc (by decide) (by decide)
  clear hc
  go_enter Tryd.func12, Tryd.ntmps12
  go_wp2_with fail
  refine HN.out.mono ?_
  rintro e w1 ⟨k, x, hk, hx, rfl, hcell, hca, hap⟩
  have hl := short (fs := valueF) (n := 19) (by decide) hx
  have hk2 : k < 11 := hk
  have i1 : (k : Int) < 11 := by omega
  have i2 : (0 : Int) ≤ (k : Int) := by omega
  have HC := Lib.hid hca
  have HA := Lib.hid hap
  clear hca hap hx hk HN
  go_wp2_with fail
  go_ret
  exact ⟨x, hl, rfl, HC.out, HA.out⟩
def wordF : List (List UInt8) := [[103, 101, 116], [101, 114, 114, 111, 114], [119, 97, 114, 110], [97, 49], [117, 115, 101, 114, 95, 55], [120], [84, 105, 109, 101, 111, 117, 116], [50, 48, 48], [71, 69, 84], [101, 114, 114, 111], [122], [], [255], [97, 46, 98]]
theorem dword_any (g : Nat) (w : World) (hc : CodesAt w g) : Calls Tryd.prog 27 #[.pointer (some ⟨g, 0, none⟩)] w (StrP 7 g w) := by
  have HN : Hid (Calls Tryd.prog 15 #[.pointer (some ⟨g, 0, none⟩), .int .i64 14] (w.alloc (.cells #[.string ⟨#[103, 101, 116]⟩, .string ⟨#[101, 114, 114, 111, 114]⟩, .string ⟨#[119, 97, 114, 110]⟩, .string ⟨#[97, 49]⟩, .string ⟨#[117, 115, 101, 114, 95, 55]⟩, .string ⟨#[120]⟩, .string ⟨#[84, 105, 109, 101, 111, 117, 116]⟩, .string ⟨#[50, 48, 48]⟩, .string ⟨#[71, 69, 84]⟩, .string ⟨#[101, 114, 114, 111]⟩, .string ⟨#[122]⟩, .string ⟨#[]⟩, .string ⟨#[255]⟩, .string ⟨#[97, 46, 98]⟩] 9)) (LitP g w wordF)) := lit_next g w wordF hc (by decide) (by decide)
  clear hc
  go_enter Tryd.func27, Tryd.ntmps27
  go_wp2_with fail
  refine HN.out.mono ?_
  rintro e w1 ⟨k, x, hk, hx, rfl, hcell, hca, hap⟩
  have hl := short (fs := wordF) (n := 7) (by decide) hx
  have hk2 : k < 14 := hk
  have i1 : (k : Int) < 14 := by omega
  have i2 : (0 : Int) ≤ (k : Int) := by omega
  have HC := Lib.hid hca
  have HA := Lib.hid hap
  clear hca hap hx hk HN
  go_wp2_with fail
  go_ret
  exact ⟨x, hl, rfl, HC.out, HA.out⟩

theorem dtime_any (g : Nat) (w : World) (hc : CodesAt w g) : Calls Tryd.prog 17 #[.pointer (some ⟨g, 0, none⟩)] w (IntP 300000000000000 g w) := by
  have HN := Lib.hid (next_any g 4 w hc (by omega) (by omega))
  clear hc
  go_enter Tryd.func17, Tryd.ntmps17
  go_wp2_with (go_at_call 15; refine HN.out.mono ?_)
  rintro e w1 ⟨q, hq, rfl, hca, hap⟩
  have HC := Lib.hid hca
  have HA := Lib.hid hap
  clear hca hap HN
  by_cases q0 : q = 0
  · subst q0
    go_wp2_with fail
    refine (next_any g 40 w1 HC.out (by omega) (by omega)).mono ?_
    rintro e w2 ⟨m, hm, rfl, hca, hap⟩
    have HC2 := Lib.hid hca
    have HA2 := Lib.hid (HA.out.trans hap)
    clear hca hap
    go_wp2_with fail
    go_ret
    exact ⟨m * 86400000, by omega, by go_num, HC2.out, HA2.out⟩
  by_cases q1 : q = 1
  · subst q1
    go_wp2_with fail
    refine (next_any g 3 w1 HC.out (by omega) (by omega)).mono ?_
    rintro e w2 ⟨m, hm, rfl, hca, hap⟩
    have HC2 := Lib.hid hca
    have HA2 := Lib.hid (HA.out.trans hap)
    clear hca hap
    go_wp2_with fail
    go_ret
    exact ⟨253402300799999 - m * 86400000, by omega, by go_num, HC2.out, HA2.out⟩
  · have z0 : ((q : Int) == 0) = false := by rw [beq_eq_false_iff_ne]; omega
    have z1 : ((q : Int) == 1) = false := by rw [beq_eq_false_iff_ne]; omega
    go_wp2_with fail
    refine (next_any g 60 w1 HC.out (by omega) (by omega)).mono ?_
    rintro e w2 ⟨m, hm, rfl, hca, hap⟩
    have HC2 := Lib.hid hca
    have HA2 := Lib.hid (HA.out.trans hap)
    clear hca hap
    go_wp2_with fail
    go_ret
    exact ⟨1000 + m, by omega, by go_num, HC2.out, HA2.out⟩
def weightL : List Nat := [1, 1, 2, 5, 10, 5040]
theorem dweight_any (g : Nat) (w : World) (hc : CodesAt w g) : Calls Tryd.prog 18 #[.pointer (some ⟨g, 0, none⟩)] w (IntP 5040 g w) := by
  have hb : Below w.heap.size w (w.alloc (.cells #[.int .i64 1, .int .i64 1, .int .i64 2, .int .i64 5, .int .i64 10, .int .i64 5040] 3)) := (Below.refl _ w).alloc (Nat.le_refl _) _
  have HN := Lib.hid (next_any g 6 _ (hc.below hb) (by omega) (by omega))
  have HB := Lib.hid hb
  have HG := Lib.hid hc.1
  clear hc hb
  go_enter Tryd.func18, Tryd.ntmps18
  go_wp2_with (go_at_call 15; refine HN.out.mono ?_)
  rintro e w1 ⟨k, hk, rfl, hca, hap⟩
  have hcell : ∃ u : Nat, u ≤ 5040 ∧ w1.cell? ⟨w.heap.size, k, none⟩ = some (.int .i64 u) := by
    rw [hap.cell (p := ⟨w.heap.size, k, none⟩) (by have := HG.out; simp; omega) (by simp)]
    match k, hk with
    | 0, _ => exact ⟨1, by omega, by simp [go_sem]⟩
    | 1, _ => exact ⟨1, by omega, by simp [go_sem]⟩
    | 2, _ => exact ⟨2, by omega, by simp [go_sem]⟩
    | 3, _ => exact ⟨5, by omega, by simp [go_sem]⟩
    | 4, _ => exact ⟨10, by omega, by simp [go_sem]⟩
    | 5, _ => exact ⟨5040, by omega, by simp [go_sem]⟩
  obtain ⟨u, hu, hcell⟩ := hcell
  have i1 : (k : Int) < 6 := by omega
  have i2 : (0 : Int) ≤ (k : Int) := by omega
  have HC := Lib.hid hca
  have HA := Lib.hid ((Apart.of_below HB.out HG.out).trans hap)
  clear hca hap HN
  go_wp2_with fail
  go_ret
  exact ⟨u, hu, rfl, HC.out, HA.out⟩

end Go.Proofs.YtmcnhphmglmmeabDoor

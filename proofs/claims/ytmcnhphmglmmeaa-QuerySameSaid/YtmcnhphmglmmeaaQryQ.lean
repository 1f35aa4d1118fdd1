/-
  The list of choices hands out names, values, numbers, lists of names.
-/
import Derived.Test.YtmcnhphmglmmeaaQryP
namespace Go.Proofs.Ytmcnhphmglmmeaa
open Go.RowKit

theorem short {fs : List (List UInt8)} {n : Nat} (h : fs.all (fun b => decide (b.length ≤ n)) = true) {x : List UInt8} (hx : x ∈ fs) : x.length ≤ n := by
  have := List.all_eq_true.1 h x hx
  simpa using this
def StrP (n g : Nat) (w : World) (e : Ending) (w' : World) : Prop := ∃ x : List UInt8, x.length ≤ n ∧ e = .returned (.string ⟨x.toArray⟩) ∧ CodesAt w' g ∧ Apart g w w'
def IntP (m g : Nat) (w : World) (e : Ending) (w' : World) : Prop := ∃ k : Nat, k ≤ m ∧ e = .returned (.int .i64 k) ∧ CodesAt w' g ∧ Apart g w w'
def LitP (g : Nat) (w : World) (fs : List (List UInt8)) (e : Ending) (w' : World) : Prop :=
  ∃ (k : Nat) (x : List UInt8), k < fs.length ∧ x ∈ fs ∧ e = .returned (.int .i64 k) ∧ w'.cell? ⟨w.heap.size, k, none⟩ = some (.string ⟨x.toArray⟩) ∧ CodesAt w' g ∧ Apart g w w'
theorem lit_next (g : Nat) (w : World) (fs : List (List UInt8)) (hc : CodesAt w g) (h0 : 0 < fs.length) (h1 : fs.length ≤ 1000) :
    Calls Try.prog 15 #[.pointer (some ⟨g, 0, none⟩), .int .i64 fs.length] (w.alloc (.cells (fs.map fun f => Value.string ⟨f.toArray⟩).toArray 9)) (LitP g w fs) := by
  have hb : Below w.heap.size w (w.alloc (.cells (fs.map fun f => Value.string ⟨f.toArray⟩).toArray 9)) := (Below.refl _ w).alloc (Nat.le_refl _) _
  refine (next_any g fs.length _ (hc.below hb) h0 (by omega)).mono ?_
  rintro e w' ⟨k, hk, rfl, h2, h3⟩
  refine ⟨k, fs[k], hk, List.getElem_mem hk, rfl, ?_, h2, (Apart.of_below hb hc.1).trans h3⟩
  rw [h3.cell (p := ⟨w.heap.size, k, none⟩) (by have := hc.1; simp; omega) (by simp)]
  simp [go_sem, hk]

def nameF : List (List UInt8) := [[108, 101, 118, 101, 108], [109, 115], [117, 115, 101, 114], [99, 111, 100, 101]]
theorem dname_any (g : Nat) (w : World) (hc : CodesAt w g) : Calls Try.prog 26 #[.pointer (some ⟨g, 0, none⟩)] w (StrP 5 g w) := by
  have HN : Hid (Calls Try.prog 15 #[.pointer (some ⟨g, 0, none⟩), .int .i64 4] (w.alloc (.cells #[.string ⟨#[108, 101, 118, 101, 108]⟩, .string ⟨#[109, 115]⟩, .string ⟨#[117, 115, 101, 114]⟩, .string ⟨#[99, 111, 100, 101]⟩] 9)) (LitP g w nameF)) := lit_next g w nameF hc (by decide) (by decide)
  clear hc
  go_enter Try.func26, Try.ntmps26
  go_wp2_with fail
  refine HN.out.mono ?_
  rintro e w1 ⟨k, x, hk, hx, rfl, hcell, hca, hap⟩
  have hl := short (fs := nameF) (n := 5) (by decide) hx
  have hk2 : k < 4 := hk
  have i1 : (k : Int) < 4 := by omega
  have i2 : (0 : Int) ≤ (k : Int) := by omega
  have HC := Lib.hid hca
  have HA := Lib.hid hap
  clear hca hap hx hk HN
  go_wp2_with fail
  go_ret
  exact ⟨x, hl, rfl, HC.out, HA.out⟩
def valueF : List (List UInt8) := [[119, 97, 114, 110], [105, 110, 102, 111], [55], [45, 51], [51, 49], [], [120, 32, 121], [57, 57, 57, 57, 57, 57, 57, 57, 57, 57, 57, 57, 57, 57, 57, 57, 57, 57], [49, 48, 48, 48, 48, 48, 48, 48, 48, 48, 48, 48, 48, 48, 48, 48, 48, 48, 48], [48, 55], [45]]
theorem dvalue_any (g : Nat) (w : World) (hc : CodesAt w g) : Calls Try.prog 27 #[.pointer (some ⟨g, 0, none⟩)] w (StrP 19 g w) := by
  have HN : Hid (Calls Try.prog 15 #[.pointer (some ⟨g, 0, none⟩), .int .i64 11] (w.alloc (.cells #[.string ⟨#[119, 97, 114, 110]⟩, .string ⟨#[105, 110, 102, 111]⟩, .string ⟨#[55]⟩, .string ⟨#[45, 51]⟩, .string ⟨#[51, 49]⟩, .string ⟨#[]⟩, .string ⟨#[120, 32, 121]⟩, .string ⟨#[57, 57, 57, 57, 57, 57, 57, 57, 57, 57, 57, 57, 57, 57, 57, 57, 57, 57]⟩, .string ⟨#[49, 48, 48, 48, 48, 48, 48, 48, 48, 48, 48, 48, 48, 48, 48, 48, 48, 48, 48]⟩, .string ⟨#[48, 55]⟩, .string ⟨#[45]⟩] 9)) (LitP g w valueF)) := lit_next g w valueF hc (by decide) (by decide)
  clear hc
  go_enter Try.func27, Try.ntmps27
  go_wp2_with fail
  refine HN.out.mono ?_
  rintro e w1 ⟨k, x, hk, hx, rfl, hcell, hca, hap⟩
  have hl := short (fs := valueF) (n := 19) (by decide) hx
  have hk2 : k < 11 := hk
  have i1 : (k : Int) < 11 := by omega
  have i2 : (0 : Int) ≤ (k : Int) := by omega
  have HC := Lib.hid hca
  have HA := Lib.hid hap
  clear hca hap hx hk HN
  go_wp2_with fail
  go_ret
  exact ⟨x, hl, rfl, HC.out, HA.out⟩

def IP (g : Nat) (w : World) (e : Ending) (w' : World) : Prop := ∃ n : Int, e = .returned (.int .i64 n) ∧ GD g w w'
def oddL : List Int := [9223372036854775807, -9223372036854775808, 4294967296, -2147483648, 253402300799999, 253402300800000]
theorem dint_any (g : Nat) (w : World) (hc : CodesAt w g) : Calls Try.prog 17 #[.pointer (some ⟨g, 0, none⟩)] w (IP g w) := by
  have HN := Lib.hid (next_any g 16 w hc (by omega) (by omega))
  have HG0 := Lib.hid (GD.start hc)
  clear hc
  go_enter Try.func17, Try.ntmps17
  go_wp2_with (go_at_call 15; refine HN.out.mono ?_)
  rintro e w1 ⟨q, hq, rfl, hca, hap⟩
  have HG := Lib.hid (HG0.out.go hap hca)
  clear hca hap HN HG0
  by_cases q0 : q = 15
  · subst q0
    have HGA := Lib.hid (HG.out.al (.cells #[.int .i64 9223372036854775807, .int .i64 (-9223372036854775808), .int .i64 4294967296, .int .i64 (-2147483648), .int .i64 253402300799999, .int .i64 253402300800000] 3))
    go_wp2_with fail
    refine (next_any g 6 _ HGA.out.codes (by omega) (by omega)).mono ?_
    rintro e w2 ⟨k, hk, rfl, hca, hap⟩
    have hcell : ∃ u : Int, w2.cell? ⟨w1.heap.size, k, none⟩ = some (.int .i64 u) := by
      rw [hap.cell (p := ⟨w1.heap.size, k, none⟩) (by have := HG.out.codes.1; simp; omega) (by simp)]
      match k, hk with
      | 0, _ => exact ⟨_, by simp [go_sem]; rfl⟩
      | 1, _ => exact ⟨_, by simp [go_sem]; rfl⟩
      | 2, _ => exact ⟨_, by simp [go_sem]; rfl⟩
      | 3, _ => exact ⟨_, by simp [go_sem]; rfl⟩
      | 4, _ => exact ⟨_, by simp [go_sem]; rfl⟩
      | 5, _ => exact ⟨_, by simp [go_sem]; rfl⟩
    obtain ⟨u, hcell⟩ := hcell
    have i1 : (k : Int) < 6 := by omega
    have i2 : (0 : Int) ≤ (k : Int) := by omega
    have HG2 := Lib.hid (HGA.out.go hap hca)
    clear hca hap
    go_wp2_with fail
    go_ret
    exact ⟨u, rfl, HG2.out⟩
  · have z0 : ((q : Int) == 15) = false := by rw [beq_eq_false_iff_ne]; omega
    go_wp2_with fail
    refine (next_any g 256 w1 HG.out.codes (by omega) (by omega)).mono ?_
    rintro e w2 ⟨m, hm, rfl, hca, hap⟩
    have HG2 := Lib.hid (HG.out.go hap hca)
    clear hca hap
    go_wp2_with fail
    refine (next_any g 6 w2 HG2.out.codes (by omega) (by omega)).mono ?_
    rintro e w3 ⟨n, hn, rfl, hca, hap⟩
    have HG3 := Lib.hid (HG2.out.go hap hca)
    clear hca hap
    have i1 : ¬ ((n : Int) < 0) := by omega
    have i2 : (0 : Int) ≤ (n : Int) := by omega
    go_wp2_with fail
    go_ret
    exact ⟨_, rfl, HG3.out⟩

/-- A row of one element, just made. -/
theorem OR.lit {α : Type} {B : Nat} {e : TypeId} {k : Nat} {R : α → List Value → Prop} (W : World) (x : α) (us : List Value) (hB : B ≤ W.heap.size) (hu : us.length = k) (hx : R x us) :
    OR B e k R (W.alloc (.cells us.toArray e)) [x] (.slice (some ⟨W.heap.size, 0, none⟩) 1 1) := by
  refine ⟨⟨[us], rfl, fun i h h' => ?_, by simp [hu], .inr ⟨W.heap.size, 1, us.toArray, rfl, hB, heap_alloc_new W _, by simp, by unfold maxLen; omega, by simp [hu], by rw [← hu]; simp⟩⟩, by simp⟩
  simp only [List.length_singleton] at h
  obtain rfl : i = 0 := by omega
  exact ⟨hu, hx⟩
def NP (g : Nat) (w : World) (e : Ending) (w' : World) : Prop := ∃ v ns, e = .returned v ∧ RW (fun k => w.heap.size ≤ k) 1 NR w' ns v ∧ GD g w w' ∧ ns.length ≤ 1000
def namesF : List (List UInt8) := [[108, 101, 118, 101, 108], [64, 104, 111, 115, 116], [64, 115, 116, 114, 101, 97, 109], [99, 111, 100, 101], [64, 116, 114, 97, 99, 101]]
theorem dnames_any (g : Nat) (w : World) (hc : CodesAt w g) : Calls Try.prog 16 #[.pointer (some ⟨g, 0, none⟩)] w (NP g w) := by
  have HN : Hid (Calls Try.prog 15 #[.pointer (some ⟨g, 0, none⟩), .int .i64 5] (w.alloc (.cells #[.string ⟨#[108, 101, 118, 101, 108]⟩, .string ⟨#[64, 104, 111, 115, 116]⟩, .string ⟨#[64, 115, 116, 114, 101, 97, 109]⟩, .string ⟨#[99, 111, 100, 101]⟩, .string ⟨#[64, 116, 114, 97, 99, 101]⟩] 9)) (LitP g w namesF)) := lit_next g w namesF hc (by decide) (by decide)
  have HG0 := Lib.hid (GD.start hc)
  clear hc
  go_enter Try.func16, Try.ntmps16
  go_wp2_with fail
  refine HN.out.mono ?_
  rintro e w1 ⟨k, x, hk, hx, rfl, hcell, hca, hap⟩
  have hk2 : k < 5 := hk
  have i1 : (k : Int) < 5 := by omega
  have i2 : (0 : Int) ≤ (k : Int) := by omega
  have HG := Lib.hid (HG0.out.go hap hca)
  clear hca hap hx hk HN HG0
  have HO := Lib.hid (OR.lit (B := w.heap.size) (e := 9) (R := NR) w1 x [.string ⟨x.toArray⟩] HG.out.le rfl rfl)
  have HGA := Lib.hid (HG.out.al (.cells #[.string ⟨x.toArray⟩] 9))
  go_wp2_with fail
  refine (next_any g 2 _ HGA.out.codes (by omega) (by omega)).mono ?_
  rintro e w2 ⟨q, hq, rfl, hca, hap⟩
  have HG2 := Lib.hid (HGA.out.go hap hca)
  have HO2 := Lib.hid (HO.out.keep (W' := w2) (R' := NR) (fun j h1 h2 => hap.block (by have := HG.out.hg; omega) h2) (fun _ _ h => h))
  clear hca hap hcell HO HGA
  by_cases q1 : q = 1
  · subst q1
    go_wp2_with fail
    refine (dname_any g w2 HG2.out.codes).mono ?_
    rintro e w3 ⟨y, hy, rfl, hca, hap⟩
    have HG3 := Lib.hid (HG2.out.go hap hca)
    have HO3 := Lib.hid (HO2.out.keep (W' := w3) (R' := NR) (fun j h1 h2 => hap.block (by have := HG.out.hg; omega) h2) (fun _ _ h => h))
    clear hca hap HO2 HG2
    obtain ⟨cs, hown, hcs⟩ := HO3.out.cells
    have HCS := Lib.hid hcs
    have HB := Lib.hid HG3.out.le
    clear hcs
    go_wp2_with (at_builtin; refine wpList_append_1 rfl _ _ 26 9 (.string ⟨#[]⟩) 16 rfl Try.underlying26 infoStr rfl w.heap.size _ 1 cs rfl hown (.string ⟨y.toArray⟩) rfl rfl (by omega) (by omega) HB.out ?_; intro v' w4 hown' hgrow)
    have HO4 := Lib.hid (HCS.out NR w4 y [.string ⟨y.toArray⟩] v' (fun _ _ h => h) rfl rfl (by simp) hown')
    have HB4 := Lib.hid (((Below.refl w.heap.size w3).alloc HG3.out.le _).grown hgrow (by have := HG3.out.le; simp; omega) (fun k hk => (hown.lt k hk).1))
    go_wp2_with fail
    go_ret
    exact ⟨v', _, rfl, HO4.out.rw (fun b h => h), HG3.out.on HB4.out, by simp⟩
  · have z1 : ((q : Int) == 1) = false := by rw [beq_eq_false_iff_ne]; omega
    go_wp2_with fail
    go_ret
    exact ⟨_, _, rfl, HO2.out.rw (fun b h => h), HG2.out, by simp⟩

end Go.Proofs.Ytmcnhphmglmmeaa

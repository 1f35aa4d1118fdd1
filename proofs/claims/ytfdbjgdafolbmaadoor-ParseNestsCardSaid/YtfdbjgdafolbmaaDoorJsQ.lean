/-
  object of the law's package: an object, or nearly.
-/
import Derived.Test.YtfdbjgdafolbmaaDoorJsP
namespace Go.Proofs.YtfdbjgdafolbmaaDoor
open Go.RowKit Go.Sort Go.Shelf

/-- No braces. -/
def Cl (b : List UInt8) : Prop := ∀ c ∈ b, c ≠ 123 ∧ c ≠ 125
theorem Cl.app {a b : List UInt8} (h : Cl a) (k : Cl b) : Cl (a ++ b) := fun c hc => (List.mem_append.1 hc).elim (h c) (k c)
def clB (b : List UInt8) : Bool := b.all fun c => c != 123 && c != 125
theorem cl_of {b : List UInt8} (h : clB b = true) : Cl b := fun c hc => by
  have := List.all_eq_true.1 h c hc
  simpa using this
theorem small {fs : List (List UInt8)} {n : Nat} (h : fs.all (fun b => clB b && decide (b.length ≤ n)) = true) {x : List UInt8} (hx : x ∈ fs) : Cl x ∧ x.length ≤ n := by
  have := List.all_eq_true.1 h x hx
  rw [Bool.and_eq_true, decide_eq_true_iff] at this
  exact ⟨cl_of this.1, this.2⟩
structure GR (w : World) (g : Nat) (b : List UInt8) (j : Nat) (W : World) : Prop where
  le : j ≤ 3
  cl : Cl b
  len : b.length + 18 * j ≤ 54
  codes : CodesAt W g
  apart : Apart g w W

theorem inn_close {b x : List UInt8} (hb : Cl b) (hl : b.length ≤ 54) (hx : x ∈ pickD) : Js.Inn (b ++ x) := by
  have h1 : 123 ∉ b := fun h => (hb _ h).1 rfl
  have h2 : 125 ∉ b := fun h => (hb _ h).2 rfl
  have hx' : x = [125] ∨ x = [32, 125] ∨ x = [] := by simpa [pickD] using hx
  rcases hx' with rfl | rfl | rfl
  · refine ⟨?_, ?_, by simp; omega⟩
    · simp [h1]
    · rw [List.dropLast_concat]; exact h2
  · refine ⟨?_, ?_, by simp; omega⟩
    · simp [h1]
    · rw [show b ++ [32, 125] = (b ++ [32]) ++ [125] by simp, List.dropLast_concat]
      simp [h2]
  · refine ⟨?_, ?_, by simp; omega⟩
    · simp [h1]
    · rw [List.append_nil]
      exact fun h => h2 (List.dropLast_subset _ h)
def ObjPost (g : Nat) (w : World) (e : Ending) (w' : World) : Prop := ∃ b, Js.Inn b ∧ e = .returned (.string ⟨(123 :: b).toArray⟩) ∧ CodesAt w' g ∧ Apart g w w'
set_option maxRecDepth 100000 in
set_option maxHeartbeats 4000000 in
theorem objgen_any (g : Nat) (w : World) (hc : CodesAt w g) :
    Calls Tryd.prog 20 #[.pointer (some ⟨g, 0, none⟩), .int .i64 0] w (ObjPost g w) := by
  have HN := Lib.hid (next_any g 4 w hc (by omega) (by omega))
  clear hc
  go_enter Tryd.func20, Tryd.ntmps20
  go_wp2_with (go_at_call 13; refine HN.out.mono ?_)
  rintro e w1 ⟨n, hn, rfl, hca, hap⟩
  have HG := Lib.hid (show GR w g [] n w1 from ⟨by omega, fun c h => by simp at h, by simp; omega, hca, hap⟩)
  clear hca hap HN
  go_wp2_with fail
  go_loopw [5, 6] (fun s i wr => ∃ b j, i = .int .i64 (j : Nat) ∧ s = .string ⟨(123 :: b : List UInt8).toArray⟩ ∧ GR w g b j wr) (fun _ i _ => (intOf i).toNat)
  case atStart => exact ⟨[], n, rfl, rfl, HG.out⟩
  case round =>
    obtain ⟨b, j, rfl, rfl, hG⟩ := hrel
    have HGR := Lib.hid hG
    have hj3 := hG.le
    have hbl := hG.len
    clear hG HG
    cases j with
    | zero =>
      have HP := Lib.hid (pickD_any g wr HGR.out.codes)
      go_wp2_with fail
      refine HP.out.mono ?_
      rintro e w2 ⟨x, hx, rfl, h1, h2⟩
      have HX := Lib.hid hx
      have hxl : x.length ≤ 2 := by simp [pickD] at hx; rcases hx with h | h | h <;> rw [h] <;> decide
      have HF := Lib.hid (show ObjPost g w (.returned (.string ⟨(123 :: (b ++ x)).toArray⟩)) w2 from ⟨b ++ x, inn_close HGR.out.cl (by omega) hx, rfl, h1, HGR.out.apart.trans h2⟩)
      clear hx h1 h2 HP HX HGR
      go_wp2_with fail
      go_ret
      have e1 : ByteArray.mk (123 :: b : List UInt8).toArray ++ ByteArray.mk x.toArray = ⟨(123 :: (b ++ x)).toArray⟩ := ba_app (123 :: b) x
      rw [e1]
      exact HF.out
    | succ j =>
      have hj0 : (0 : Int) < (j : Int) + 1 := by omega
      go_wp2_with fail
      refine (pickA_any g wr HGR.out.codes).mono ?_
      rintro e w2 ⟨x1, hx1, rfl, k1, a1⟩
      obtain ⟨cl1, l1⟩ := small (fs := pickA) (n := 1) (by decide) hx1
      have C1 := Lib.hid cl1
      have K1 := Lib.hid k1
      have A1 := Lib.hid a1
      clear hx1 cl1 k1 a1
      go_wp2_with fail
      refine (pickB_any g w2 K1.out).mono ?_
      rintro e w3 ⟨x2, hx2, rfl, k2, a2⟩
      obtain ⟨cl2, l2⟩ := small (fs := pickB) (n := 3) (by decide) hx2
      have C2 := Lib.hid cl2
      have K2 := Lib.hid k2
      have A2 := Lib.hid a2
      clear hx2 cl2 k2 a2
      go_wp2_with fail
      refine (pickA_any g w3 K2.out).mono ?_
      rintro e w4 ⟨x3, hx3, rfl, k3, a3⟩
      obtain ⟨cl3, l3⟩ := small (fs := pickA) (n := 1) (by decide) hx3
      have C3 := Lib.hid cl3
      have K3 := Lib.hid k3
      have A3 := Lib.hid a3
      clear hx3 cl3 k3 a3
      go_wp2_with fail
      refine (pickC_any g w4 K3.out).mono ?_
      rintro e w5 ⟨x4, hx4, rfl, k4, a4⟩
      obtain ⟨cl4, l4⟩ := small (fs := pickC) (n := 8) (by decide) hx4
      have C4 := Lib.hid cl4
      have K4 := Lib.hid k4
      have A4 := Lib.hid a4
      clear hx4 cl4 k4 a4
      by_cases hj1 : 1 ≤ j
      · have t1 : decide ((1 : Int) < (j : Int) + 1) = true := decide_eq_true (by omega)
        go_wp2_with fail
        refine ⟨⟨b ++ (x1 ++ [34] ++ x2 ++ [34, 58] ++ x3) ++ x4 ++ [44], j, by go_num, ?_, ⟨by omega, ((HGR.out.cl.app ((((C1.out.app (cl_of rfl)).app C2.out).app (cl_of rfl)).app C3.out)).app C4.out).app (cl_of rfl), ?_, K4.out, (((HGR.out.apart.trans A1.out).trans A2.out).trans A3.out).trans A4.out⟩⟩, by simp [intOf]⟩
        · simp only [ba_app]
          rfl
        · simp
          omega
      · obtain rfl : j = 0 := by omega
        have HN := Lib.hid (next_any g 9 w5 K4.out (by omega) (by omega))
        clear hj1
        go_wp2_with fail
        refine HN.out.mono ?_
        rintro e w6 ⟨q, hq, rfl, k5, a5⟩
        have K5 := Lib.hid k5
        have A5 := Lib.hid a5
        clear k5 a5 HN
        by_cases h8 : q = 8
        · subst h8
          go_wp2_with fail
          refine ⟨⟨b ++ (x1 ++ [34] ++ x2 ++ [34, 58] ++ x3) ++ x4 ++ [44], 0, rfl, ?_, ⟨by omega, ((HGR.out.cl.app ((((C1.out.app (cl_of rfl)).app C2.out).app (cl_of rfl)).app C3.out)).app C4.out).app (cl_of rfl), ?_, K5.out, ((((HGR.out.apart.trans A1.out).trans A2.out).trans A3.out).trans A4.out).trans A5.out⟩⟩, by simp [intOf]⟩
          · simp only [ba_app]
            rfl
          · simp
            omega
        · have t8 : ((q : Int) == 8) = false := by rw [beq_eq_false_iff_ne]; omega
          go_wp2_with fail
          refine ⟨⟨b ++ (x1 ++ [34] ++ x2 ++ [34, 58] ++ x3) ++ x4, 0, rfl, ?_, ⟨by omega, (HGR.out.cl.app ((((C1.out.app (cl_of rfl)).app C2.out).app (cl_of rfl)).app C3.out)).app C4.out, ?_, K5.out, ((((HGR.out.apart.trans A1.out).trans A2.out).trans A3.out).trans A4.out).trans A5.out⟩⟩, by simp [intOf]⟩
          · simp only [ba_app]
            rfl
          · simp
            omega

end Go.Proofs.YtfdbjgdafolbmaaDoor

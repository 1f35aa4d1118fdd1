/-
  Check and Millis of the calendar and of its reference.
-/
import Derived.Test.YtplbaffcgkjmjaaDoorCalC
namespace Go.Proofs.YtplbaffcgkjmjaaDoor
open Go.RowKit

/-- What the calendar's tables need of the world. -/
structure G (w : World) : Prop where
  tab : Tab w
  pow : Pow w
theorem G.below {w w' : World} (h : G w) (hb : Below w.heap.size w w') : G w' :=
  ⟨h.tab.below hb (World.block_lt_of_cell? w _ (h.tab 0 (by omega))), h.pow.below hb⟩
theorem G.alloc {w : World} (h : G w) (o : Obj) : G (w.alloc o) := h.below ((Below.refl _ _).alloc (Nat.le_refl _) o)
theorem G.qt {w w' : World} (h : G w) (k : Qt w w') : G w' := h.below (k.below _)

def chkB (y m d h mi s ms : Int) : Bool := Cal.vldB y m d && (inB h 0 23 && (inB mi 0 59 && (inB s 0 59 && inB ms 0 999)))
def chk (y m d h mi s ms : Int) : Int := if chkB y m d h mi s ms then 0 else 10

abbrev dateV (y m d h mi s ms : Int) : Value := .agg #[.int .i64 y, .int .i64 m, .int .i64 d, .int .i64 h, .int .i64 mi, .int .i64 s, .int .i64 ms]

theorem check_any (y m d h mi s ms : Int) (w : World) (hg : G w) :
    Calls Tryd.prog 14 #[dateV y m d h mi s ms] w fun e w' => e = .returned (.int .i64 (chk y m d h mi s ms)) ∧ Below w.heap.size w w' := by
  have hc := Lib.hid fun o => valid_any y m d (w.alloc o) (hg.alloc o).tab
  cases a : Cal.vldB y m d
  · have hf := Lib.hid (show chk y m d h mi s ms = 10 by simp [chk, chkB, a])
    go_enter Tryd.func14, Tryd.ntmps14
    go_wp2_with (go_at_call 22; refine (hc.out _).mono ?_; rintro e w1 ⟨rfl, hq⟩; have hk := hq.cell; rw [a])
    go_ret
    exact ⟨ret_int (by rw [hf.out]), ((Below.refl _ _).alloc (Nat.le_refl _) _).trans (hq.below _)⟩
  · cases b : inB h 0 23 <;> cases c : inB mi 0 59 <;> cases e : inB s 0 59 <;> cases g : inB ms 0 999
    all_goals
      have hf := Lib.hid (show chk y m d h mi s ms = _ by simp only [chk, chkB, a, b, c, e, g]; rfl)
      go_enter Tryd.func14, Tryd.ntmps14
      go_wp2_with (first | (go_at_call 22; refine (hc.out _).mono ?_; rintro e w1 ⟨rfl, hq⟩; have hk := hq.cell; rw [a]) | (go_at_call 24; refine (within_any _ _ _ _).mono ?_; rintro e w' ⟨rfl, rfl⟩))
      go_ret
      exact ⟨ret_int (by rw [hf.out]; try rfl), ((Below.refl _ _).alloc (Nat.le_refl _) _).trans (hq.below _)⟩

end Go.Proofs.YtplbaffcgkjmjaaDoor

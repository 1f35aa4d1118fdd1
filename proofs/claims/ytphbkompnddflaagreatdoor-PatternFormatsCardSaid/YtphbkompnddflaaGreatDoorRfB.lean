/-
  Joined: PqA, PsA, NumD, PtB, PtC, PtD, PtE.
-/
import Derived.Test.YtphbkompnddflaaGreatDoorRfA
import Derived.Lib.QuietBelow
import Derived.Test.YtphbkompnddflaaGreatDoorMem
import Derived.Deep.RegionHeld3
import Derived.Deep.RegionWith
import Derived.Laws.BytesArg
import Derived.Lib.ItoaLen
import Derived.BigQuiet
import Derived.Test.YtphbkompnddflaaGreatDoorPatV
import Derived.Test.YtphbkompnddflaaGreatDoorPzF
import Derived.StillTailTactics
/-
  Same of the reference, of two copies of one node.
-/
namespace Go.Proofs.YtphbkompnddflaaGreatDoor
open Go.RowKit Go.Sort

set_option maxRecDepth 1000000 in
set_option maxHeartbeats 4000000 in
theorem same_aux (N : Nat) : ∀ (t : NT) (v x : Value) (w : World), SizeOf.sizeOf t < N → NAt w t v → NAt w t x →
    Calls Tryz.prog 13 #[v, x] w fun e w' => e = .returned (.bool true) ∧ Below w.heap.size w w' := by
  induction N with
  | zero => intro t v x w h _ _; omega
  | succ N ih =>
  intro t v x w hN h h2
  obtain ⟨op, rs, nm, kids, mn, mx, ra, rc, a, c, rfl, rfl, hr, ⟨hml, hnm⟩, hk⟩ := h.open
  obtain ⟨op', rs', nm', kids', mn', mx', ra', rc', a', c', ht, rfl, hr', _, hk'⟩ := h2.open
  injection ht with e1 e2 e3 e4 e5 e6
  subst e1 e2 e3 e4 e5 e6
  have IH := Lib.hid fun (i : Nat) (hi : i < kids.length) (W : World) (u y : Value) (hu : NAt W kids[i] u) (hy : NAt W kids[i] y) => ih kids[i] u y W (by have := kid_lt (op := op) (rs := rs) (nm := nm) (mn := mn) (mx := mx) i hi; omega) hu hy
  have HK := Lib.hid hk
  have HK' := Lib.hid hk'
  obtain ⟨_, _, er, hrl, hrk⟩ := hr
  injection er with er1 er2 er3
  subst er1 er3
  obtain ⟨_, _, er, _, hrk'⟩ := hr'
  injection er with er1 er2 er3
  subst er1 er3
  have HR := Lib.hid hrk
  have HR' := Lib.hid hrk'
  have hb1 := al_below w (.cells #[.int .i64 op, .slice ra rs.length rc, .string ⟨nm.toArray⟩, .slice a kids.length c, .int .i64 mn, .int .i64 mx] 25)
  have HBK1 := Lib.hid ((nE_new w op ra rs.length rc nm a kids.length c mn mx).on (al_below _ (.cells #[.int .i64 op, .slice ra' rs.length rc', .string ⟨nm.toArray⟩, .slice a' kids.length c', .int .i64 mn, .int .i64 mx] 25)) (by simp))
  have HBK2 := Lib.hid (nE_new (w.alloc (.cells #[.int .i64 op, .slice ra rs.length rc, .string ⟨nm.toArray⟩, .slice a kids.length c, .int .i64 mn, .int .i64 mx] 25)) op ra' rs.length rc' nm a' kids.length c' mn mx)
  have HB0 := Lib.hid (hb1.alloc hb1.size (.cells #[.int .i64 op, .slice ra' rs.length rc', .string ⟨nm.toArray⟩, .slice a' kids.length c', .int .i64 mn, .int .i64 mx] 25))
  have hs1 : (w.alloc (.cells #[.int .i64 op, .slice ra rs.length rc, .string ⟨nm.toArray⟩, .slice a kids.length c, .int .i64 mn, .int .i64 mx] 25)).heap.size = w.heap.size + 1 := by simp
  rw [hs1] at HBK2
  obtain ⟨W0, hW0⟩ : ∃ W0, (w.alloc (.cells #[.int .i64 op, .slice ra rs.length rc, .string ⟨nm.toArray⟩, .slice a kids.length c, .int .i64 mn, .int .i64 mx] 25)).alloc (.cells #[.int .i64 op, .slice ra' rs.length rc', .string ⟨nm.toArray⟩, .slice a' kids.length c', .int .i64 mn, .int .i64 mx] 25) = W0 := ⟨_, rfl⟩
  rw [hW0] at HBK1 HBK2 HB0
  obtain ⟨p0, p1, p2, p3, p4, p5⟩ := bkn HBK1.out
  obtain ⟨q0, q1, q2, q3, q4, q5⟩ := bkn HBK2.out
  clear hk hk' h h2 hrk hrk' ih hN hnm hb1
  go_enter Tryz.func13, Tryz.ntmps13
  go_wp2_with fail
  clear hW0
  go_loopw [5] (fun i wr => ∃ k : Nat, i = .int .i64 k ∧ k ≤ rs.length ∧ Hid (Below W0.heap.size W0 wr)) (fun i _ => rs.length - (intOf i).toNat)
  case atStart => exact ⟨0, rfl, by omega, Lib.hid (Below.refl _ _)⟩
  case round =>
    obtain ⟨k, rfl, hkl, HB⟩ := hrel
    clear p0 p1 p2 p3 p4 p5 q0 q1 q2 q3 q4 q5
    obtain ⟨p0, p1, p2, p3, p4, p5⟩ := bkn (HBK1.out.on HB.out HBK1.out.lt)
    obtain ⟨q0, q1, q2, q3, q4, q5⟩ := bkn (HBK2.out.on HB.out HBK2.out.lt)
    have HBW := Lib.hid (HB0.out.trans (HB.out.mono HB0.out.size))
    by_cases hlt : k < rs.length
    · obtain ⟨blk, off, rfl, hl, c0, c1⟩ := HR.out k hlt
      obtain ⟨blk', off', rfl, hl', d0, d1⟩ := HR'.out k hlt
      have e0 := (HBW.out.cell (p := ⟨blk, off + k * 2, none⟩) hl).trans c0
      have e1 := (HBW.out.cell (p := ⟨blk, off + k * 2 + 1, none⟩) hl).trans c1
      have g0 := (HBW.out.cell (p := ⟨blk', off' + k * 2, none⟩) hl').trans d0
      have g1 := (HBW.out.cell (p := ⟨blk', off' + k * 2 + 1, none⟩) hl').trans d1
      have i1 : (k : Int) < (rs.length : Int) := by omega
      have i2 : (0 : Int) ≤ (k : Int) := by omega
      have hw1 : IntKind.i64.wrap ((k : Int) + 1) = (k : Int) + 1 := IntWalk.i64_in _ (by omega)
      obtain ⟨lo, hlo⟩ : ∃ lo, rs[k].1.toNat = lo := ⟨_, rfl⟩
      obtain ⟨hi, hhi⟩ : ∃ hi, rs[k].2.toNat = hi := ⟨_, rfl⟩
      rw [hlo] at e0 g0
      rw [hhi] at e1 g1
      clear c0 c1 d0 d1 hlo hhi
      go_wp2_with fail
      go_quiet (fail)
      go_wp2_with fail
      go_roundw
      case rel => exact ⟨k + 1, by go_num, by omega, Lib.hid (below_drewN HB.out _)⟩
      case measure => simp [intOf]; omega
    · obtain rfl : k = rs.length := by omega
      go_wp2_with fail
      go_loopw [6] (fun i wr => ∃ k : Nat, i = .int .i64 k ∧ k ≤ kids.length ∧ Hid (Below W0.heap.size W0 wr)) (fun i _ => kids.length - (intOf i).toNat)
      case atStart => exact ⟨0, rfl, by omega, HB⟩
      case round =>
        clear p0 p1 p2 p3 p4 p5 q0 q1 q2 q3 q4 q5 HB HBW
        obtain ⟨k, rfl, hkl, HB⟩ := hrel
        obtain ⟨p0, p1, p2, p3, p4, p5⟩ := bkn (HBK1.out.on HB.out HBK1.out.lt)
        obtain ⟨q0, q1, q2, q3, q4, q5⟩ := bkn (HBK2.out.on HB.out HBK2.out.lt)
        have HBW := Lib.hid (HB0.out.trans (HB.out.mono HB0.out.size))
        by_cases hlt : k < kids.length
        · obtain ⟨blk, off, op1, ra1, rn1, rc1, nm1, a1, n1, c1, mn1, mx1, rfl, hl, c0, c1, c2, c3, c4, c5, ht⟩ := HK.out k hlt
          obtain ⟨blk', off', op2, ra2, rn2, rc2, nm2, a2, n2, c2', mn2, mx2, rfl, hl', d0, d1, d2, d3, d4, d5, ht'⟩ := HK'.out k hlt
          have x0 := cell_regrown ((HBW.out.cell (p := ⟨blk, off + k * 6, none⟩) hl).trans c0)
          have x1 := cell_regrown ((HBW.out.cell (p := ⟨blk, off + k * 6 + 1, none⟩) hl).trans c1)
          have x2 := cell_regrown ((HBW.out.cell (p := ⟨blk, off + k * 6 + 2, none⟩) hl).trans c2)
          have x3 := cell_regrown ((HBW.out.cell (p := ⟨blk, off + k * 6 + 3, none⟩) hl).trans c3)
          have x4 := cell_regrown ((HBW.out.cell (p := ⟨blk, off + k * 6 + 4, none⟩) hl).trans c4)
          have x5 := cell_regrown ((HBW.out.cell (p := ⟨blk, off + k * 6 + 5, none⟩) hl).trans c5)
          have y0 := cell_regrown ((HBW.out.cell (p := ⟨blk', off' + k * 6, none⟩) hl').trans d0)
          have y1 := cell_regrown ((HBW.out.cell (p := ⟨blk', off' + k * 6 + 1, none⟩) hl').trans d1)
          have y2 := cell_regrown ((HBW.out.cell (p := ⟨blk', off' + k * 6 + 2, none⟩) hl').trans d2)
          have y3 := cell_regrown ((HBW.out.cell (p := ⟨blk', off' + k * 6 + 3, none⟩) hl').trans d3)
          have y4 := cell_regrown ((HBW.out.cell (p := ⟨blk', off' + k * 6 + 4, none⟩) hl').trans d4)
          have y5 := cell_regrown ((HBW.out.cell (p := ⟨blk', off' + k * 6 + 5, none⟩) hl').trans d5)
          have k3 := cell_regrown p3
          have m3 := cell_regrown q3
          have i1 : (k : Int) < (kids.length : Int) := by omega
          have i2 : (0 : Int) ≤ (k : Int) := by omega
          have hw1 : IntKind.i64.wrap ((k : Int) + 1) = (k : Int) + 1 := IntWalk.i64_in _ (by omega)
          have HI := Lib.hid fun d os => IH.out k hlt (grow (redrawn wr d) os) _ _ (NAt.later ((below_regrown wr d os).mono HBW.out.size |> HBW.out.trans) _ _ ht) (NAt.later ((below_regrown wr d os).mono HBW.out.size |> HBW.out.trans) _ _ ht')
          clear c0 c1 c2 c3 c4 c5 d0 d1 d2 d3 d4 d5 ht ht'
          go_wp2_with fail
          clear p0 p1 p2 p3 p4 p5 q0 q1 q2 q3 q4 q5
          refine wp_region_quiet_below (by kernel_rfl) (by kernel_rfl) ?_
          repeat (first | go_big_quiet_step ((go_at_call 13; exact Calls.regrown_of (HI.out _ _))) | quiet_step ((go_at_call 13; exact Calls.regrown_of (HI.out _ _))))
          refine wpQuiet_nil ?_
          clear x0 x1 x2 x3 x4 x5 y0 y1 y2 y3 y4 y5 k3 m3
          rintro _ ⟨⟨dq, osq⟩, rfl⟩
          obtain ⟨w3, hw3⟩ : ∃ W, grow (redrawn wr dq) osq = W := ⟨_, rfl⟩
          have HQ3 : Hid (Below W0.heap.size W0 w3) := Lib.hid (hw3 ▸ HB.out.trans ((below_regrown wr dq osq).mono HB.out.size))
          dsimp only
          rw [hw3]
          clear hw3
          go_wp2_with fail
          go_roundw
          case rel => exact ⟨k + 1, by go_num, by omega, HQ3⟩
          case measure => simp [intOf]; omega
        · obtain rfl : k = kids.length := by omega
          go_wp2_with fail
          go_ret
          exact ⟨rfl, HBW.out⟩
theorem same_self (t : NT) (v x : Value) (w : World) (h : NAt w t v) (h2 : NAt w t x) :
    Calls Tryz.prog 13 #[v, x] w fun e w' => e = .returned (.bool true) ∧ Below w.heap.size w w' := same_aux _ t v x w (Nat.lt_succ_self _) h h2
end Go.Proofs.YtphbkompnddflaaGreatDoor
/-
  Same of the reference, of any two nodes.
-/
namespace Go.Proofs.YtphbkompnddflaaGreatDoor
open Go.RowKit Go.Sort

noncomputable def sameB (t u : NT) : Bool := @decide (t = u) (Classical.propDecidable _)
theorem sameB_iff (t u : NT) : sameB t u = true ↔ t = u := by unfold sameB; exact @decide_eq_true_iff _ (Classical.propDecidable _)
/-- Two nodes' parts are the same. -/
def SmP (op op' : Int) (rs rs' : List (UInt8 × UInt8)) (nm nm' : List UInt8) (kids kids' : List NT) (mn mn' mx mx' : Int) : Prop :=
  op = op' ∧ nm = nm' ∧ mn = mn' ∧ mx = mx' ∧ (∀ i (h : i < rs.length) (h' : i < rs'.length), rs[i] = rs'[i]) ∧ (∀ i (h : i < kids.length) (h' : i < kids'.length), kids[i] = kids'[i])
theorem smP_yes {op op' : Int} {rs rs' : List (UInt8 × UInt8)} {nm nm' : List UInt8} {kids kids' : List NT} {mn mn' mx mx' : Int} (h : SmP op op' rs rs' nm nm' kids kids' mn mn' mx mx') (hl : rs.length = rs'.length) (hk : kids.length = kids'.length) : NT.node op rs nm kids mn mx = .node op' rs' nm' kids' mn' mx' := by
  obtain ⟨h1, h2, h3, h4, h5, h6⟩ := h
  rw [h1, h2, h3, h4, List.ext_getElem hl (fun i a b => h5 i a b), List.ext_getElem hk (fun i a b => h6 i a b)]
theorem smP_of {op op' : Int} {rs rs' : List (UInt8 × UInt8)} {nm nm' : List UInt8} {kids kids' : List NT} {mn mn' mx mx' : Int} (h : NT.node op rs nm kids mn mx = .node op' rs' nm' kids' mn' mx') : SmP op op' rs rs' nm nm' kids kids' mn mn' mx mx' ∧ rs.length = rs'.length ∧ kids.length = kids'.length := by
  injection h with h1 h2 h3 h4 h5 h6
  subst h1 h2 h3 h4 h5 h6
  exact ⟨⟨rfl, rfl, rfl, rfl, fun _ _ _ => rfl, fun _ _ _ => rfl⟩, rfl, rfl⟩
set_option maxRecDepth 1000000 in
set_option maxHeartbeats 8000000 in
theorem rsame_aux (N : Nat) : ∀ (t u : NT) (v x : Value) (w : World), SizeOf.sizeOf t < N → NAt w t v → NAt w u x →
    Calls Tryz.prog 13 #[v, x] w fun e w' => e = .returned (.bool (sameB t u)) ∧ Below w.heap.size w w' := by
  induction N with
  | zero => intro t u v x w h _ _; omega
  | succ N ih =>
  intro t u v x w hN h h2
  obtain ⟨op, rs, nm, kids, mn, mx, ra, rc, a, c, rfl, rfl, hr, ⟨hml, hnm⟩, hk⟩ := h.open
  obtain ⟨op', rs', nm', kids', mn', mx', ra', rc', a', c', rfl, rfl, hr', ⟨hml', _⟩, hk'⟩ := h2.open
  have IH := Lib.hid fun (i : Nat) (hi : i < kids.length) (hi' : i < kids'.length) (W : World) (u y : Value) (hu : NAt W kids[i] u) (hy : NAt W kids'[i] y) => ih kids[i] kids'[i] u y W (by have := kid_lt (op := op) (rs := rs) (nm := nm) (mn := mn) (mx := mx) i hi; omega) hu hy
  have HK := Lib.hid hk
  have HK' := Lib.hid hk'
  obtain ⟨_, _, er, hrl, hrk⟩ := hr
  injection er with er1 er2 er3
  subst er1 er3
  obtain ⟨_, _, er, hrl', hrk'⟩ := hr'
  injection er with er1 er2 er3
  subst er1 er3
  have HR := Lib.hid hrk
  have HR' := Lib.hid hrk'
  obtain ⟨B, hB⟩ : ∃ B, sameB (.node op rs nm kids mn mx) (.node op' rs' nm' kids' mn' mx') = B := ⟨_, rfl⟩
  have hiff := sameB_iff (.node op rs nm kids mn mx) (.node op' rs' nm' kids' mn' mx')
  rw [hB] at hiff ⊢
  have HNO : Hid (¬ SmP op op' rs rs' nm nm' kids kids' mn mn' mx mx' → false = B) := Lib.hid (fun h => by
    cases B with
    | false => rfl
    | true => exact absurd (smP_of (hiff.1 rfl)).1 h)
  have HLR : Hid (¬ rs.length = rs'.length → false = B) := Lib.hid (fun h => by
    cases B with
    | false => rfl
    | true => exact absurd (smP_of (hiff.1 rfl)).2.1 h)
  have HLK : Hid (¬ kids.length = kids'.length → false = B) := Lib.hid (fun h => by
    cases B with
    | false => rfl
    | true => exact absurd (smP_of (hiff.1 rfl)).2.2 h)
  have HYY : Hid (SmP op op' rs rs' nm nm' kids kids' mn mn' mx mx' → rs.length = rs'.length → kids.length = kids'.length → true = B) := Lib.hid (fun h h1 h2 => (hiff.2 (smP_yes h h1 h2)).symm)
  clear hiff hB
  have hb1 := al_below w (.cells #[.int .i64 op, .slice ra rs.length rc, .string ⟨nm.toArray⟩, .slice a kids.length c, .int .i64 mn, .int .i64 mx] 25)
  have HBK1 := Lib.hid ((nE_new w op ra rs.length rc nm a kids.length c mn mx).on (al_below _ (.cells #[.int .i64 op', .slice ra' rs'.length rc', .string ⟨nm'.toArray⟩, .slice a' kids'.length c', .int .i64 mn', .int .i64 mx'] 25)) (by simp))
  have HBK2 := Lib.hid (nE_new (w.alloc (.cells #[.int .i64 op, .slice ra rs.length rc, .string ⟨nm.toArray⟩, .slice a kids.length c, .int .i64 mn, .int .i64 mx] 25)) op' ra' rs'.length rc' nm' a' kids'.length c' mn' mx')
  have HB0 := Lib.hid (hb1.alloc hb1.size (.cells #[.int .i64 op', .slice ra' rs'.length rc', .string ⟨nm'.toArray⟩, .slice a' kids'.length c', .int .i64 mn', .int .i64 mx'] 25))
  have hs1 : (w.alloc (.cells #[.int .i64 op, .slice ra rs.length rc, .string ⟨nm.toArray⟩, .slice a kids.length c, .int .i64 mn, .int .i64 mx] 25)).heap.size = w.heap.size + 1 := by simp
  rw [hs1] at HBK2
  obtain ⟨W0, hW0⟩ : ∃ W0, (w.alloc (.cells #[.int .i64 op, .slice ra rs.length rc, .string ⟨nm.toArray⟩, .slice a kids.length c, .int .i64 mn, .int .i64 mx] 25)).alloc (.cells #[.int .i64 op', .slice ra' rs'.length rc', .string ⟨nm'.toArray⟩, .slice a' kids'.length c', .int .i64 mn', .int .i64 mx'] 25) = W0 := ⟨_, rfl⟩
  rw [hW0] at HBK1 HBK2 HB0
  obtain ⟨p0, p1, p2, p3, p4, p5⟩ := bkn HBK1.out
  obtain ⟨q0, q1, q2, q3, q4, q5⟩ := bkn HBK2.out
  clear hk hk' h h2 hrk hrk' ih hN hnm hb1
  go_enter Tryz.func13, Tryz.ntmps13
  by_cases hop : op = op'
  · subst hop
    by_cases hnm' : nm = nm'
    · subst hnm'
      by_cases hmn : mn = mn'
      · subst hmn
        by_cases hmx : mx = mx'
        · subst hmx
          by_cases hrl : rs.length = rs'.length
          · have HRL := Lib.hid hrl
            clear hrl
            by_cases hkl : kids.length = kids'.length
            · have HKL := Lib.hid hkl
              clear hkl
              have e5 : ((rs.length : Int) == (rs'.length : Int)) = true := by rw [beq_iff_eq, HRL.out]
              have e6 : ((kids.length : Int) == (kids'.length : Int)) = true := by rw [beq_iff_eq, HKL.out]
              have f5 : ((rs.length : Int) != (rs'.length : Int)) = false := by simp only [bne, e5, Bool.not_true]
              have f6 : ((kids.length : Int) != (kids'.length : Int)) = false := by simp only [bne, e6, Bool.not_true]
              have g5 : (rs.length == rs'.length) = true := by rw [beq_iff_eq, HRL.out]
              have g6 : (kids.length == kids'.length) = true := by rw [beq_iff_eq, HKL.out]
              have j5 : (rs.length != rs'.length) = false := by simp only [bne, g5, Bool.not_true]
              have j6 : (kids.length != kids'.length) = false := by simp only [bne, g6, Bool.not_true]
              go_wp2_with fail
              clear hW0
              go_loopw [5] (fun i wr => ∃ k : Nat, i = .int .i64 k ∧ k ≤ rs.length ∧ Hid (Below W0.heap.size W0 wr) ∧ Hid (∀ i (h : i < rs.length) (h' : i < rs'.length), i < k → rs[i] = rs'[i])) (fun i _ => rs.length - (intOf i).toNat)
              case atStart => exact ⟨0, rfl, by omega, Lib.hid (Below.refl _ _), Lib.hid (fun _ _ _ h => by omega)⟩
              case round =>
                obtain ⟨k, rfl, hkl, HB, HEQ⟩ := hrel
                clear p0 p1 p2 p3 p4 p5 q0 q1 q2 q3 q4 q5
                obtain ⟨p0, p1, p2, p3, p4, p5⟩ := bkn (HBK1.out.on HB.out HBK1.out.lt)
                obtain ⟨q0, q1, q2, q3, q4, q5⟩ := bkn (HBK2.out.on HB.out HBK2.out.lt)
                have HBW := Lib.hid (HB0.out.trans (HB.out.mono HB0.out.size))
                by_cases hlt : k < rs.length
                · have hlt' : k < rs'.length := by have := HRL.out; omega
                  obtain ⟨blk, off, rfl, hl, c0, c1⟩ := HR.out k hlt
                  obtain ⟨blk', off', rfl, hl', d0, d1⟩ := HR'.out k hlt'
                  have e0 := (HBW.out.cell (p := ⟨blk, off + k * 2, none⟩) hl).trans c0
                  have e1 := (HBW.out.cell (p := ⟨blk, off + k * 2 + 1, none⟩) hl).trans c1
                  have g0 := (HBW.out.cell (p := ⟨blk', off' + k * 2, none⟩) hl').trans d0
                  have g1 := (HBW.out.cell (p := ⟨blk', off' + k * 2 + 1, none⟩) hl').trans d1
                  have i1 : (k : Int) < (rs.length : Int) := by omega
                  have i3 : (k : Int) < (rs'.length : Int) := by omega
                  have i2 : (0 : Int) ≤ (k : Int) := by omega
                  have hw1 : IntKind.i64.wrap ((k : Int) + 1) = (k : Int) + 1 := IntWalk.i64_in _ (by omega)
                  clear c0 c1 d0 d1
                  by_cases he : rs[k] = rs'[k]
                  · have HEQ2 : Hid (∀ i (h : i < rs.length) (h' : i < rs'.length), i < k + 1 → rs[i] = rs'[i]) := Lib.hid (fun i h h' hi => by
                      by_cases e : i = k
                      · subst e; exact he
                      · exact HEQ.out i h h' (by omega))
                    rw [← he] at g0 g1
                    obtain ⟨lo, hlo⟩ : ∃ lo, rs[k].1.toNat = lo := ⟨_, rfl⟩
                    obtain ⟨hi, hhi⟩ : ∃ hi, rs[k].2.toNat = hi := ⟨_, rfl⟩
                    rw [hlo] at e0 g0
                    rw [hhi] at e1 g1
                    clear he hlo hhi
                    go_wp2_with fail
                    go_quiet (fail)
                    go_wp2_with fail
                    go_roundw
                    case rel => exact ⟨k + 1, by go_num, by omega, Lib.hid (below_drewN HB.out _), HEQ2⟩
                    case measure => simp [intOf]; omega
                  · have HX : Hid (false = B) := Lib.hid (HNO.out fun h => he (h.2.2.2.2.1 k hlt hlt'))
                    have hne : ¬ (rs[k].1.toNat = rs'[k].1.toNat ∧ rs[k].2.toNat = rs'[k].2.toNat) := fun h => he (Prod.ext (UInt8.toNat_inj.1 h.1) (UInt8.toNat_inj.1 h.2))
                    obtain ⟨lo, hlo⟩ : ∃ lo, rs[k].1.toNat = lo := ⟨_, rfl⟩
                    obtain ⟨hi, hhi⟩ : ∃ hi, rs[k].2.toNat = hi := ⟨_, rfl⟩
                    obtain ⟨lo', hlo'⟩ : ∃ lo, rs'[k].1.toNat = lo := ⟨_, rfl⟩
                    obtain ⟨hi', hhi'⟩ : ∃ hi, rs'[k].2.toNat = hi := ⟨_, rfl⟩
                    rw [hlo, hhi, hlo', hhi'] at hne
                    rw [hlo] at e0
                    rw [hhi] at e1
                    rw [hlo'] at g0
                    rw [hhi'] at g1
                    clear he hlo hhi hlo' hhi'
                    by_cases hz : lo = lo'
                    · subst hz
                      have zz : ((hi : Int) == (hi' : Int)) = false := by rw [beq_eq_false_iff_ne]; exact fun h => hne ⟨rfl, by omega⟩
                      clear hne
                      go_wp2_with fail
                      go_quiet (fail)
                      go_wp2_with fail
                      go_ret
                      exact ⟨ret_bool HX.out, below_drewN HBW.out _⟩
                    · have zz : ((lo : Int) == (lo' : Int)) = false := by rw [beq_eq_false_iff_ne]; omega
                      clear hne hz
                      go_wp2_with fail
                      go_quiet (fail)
                      go_wp2_with fail
                      go_ret
                      exact ⟨ret_bool HX.out, below_drewN HBW.out _⟩
                · obtain rfl : k = rs.length := by omega
                  go_wp2_with fail
                  go_loopw [6] (fun i wr => ∃ k : Nat, i = .int .i64 k ∧ k ≤ kids.length ∧ Hid (Below W0.heap.size W0 wr) ∧ Hid (∀ i (h : i < kids.length) (h' : i < kids'.length), i < k → kids[i] = kids'[i])) (fun i _ => kids.length - (intOf i).toNat)
                  case atStart => exact ⟨0, rfl, by omega, HB, Lib.hid (fun _ _ _ h => by omega)⟩
                  case round =>
                    clear p0 p1 p2 p3 p4 p5 q0 q1 q2 q3 q4 q5 HB HBW
                    obtain ⟨k, rfl, hkl2, HB, HEK⟩ := hrel
                    obtain ⟨p0, p1, p2, p3, p4, p5⟩ := bkn (HBK1.out.on HB.out HBK1.out.lt)
                    obtain ⟨q0, q1, q2, q3, q4, q5⟩ := bkn (HBK2.out.on HB.out HBK2.out.lt)
                    have HBW := Lib.hid (HB0.out.trans (HB.out.mono HB0.out.size))
                    by_cases hlt : k < kids.length
                    · have hlt' : k < kids'.length := by have := HKL.out; omega
                      obtain ⟨blk, off, op1, ra1, rn1, rc1, nm1, a1, n1, c1, mn1, mx1, rfl, hl, c0, c1, c2, c3, c4, c5, ht⟩ := HK.out k hlt
                      obtain ⟨blk', off', op2, ra2, rn2, rc2, nm2, a2, n2, c2', mn2, mx2, rfl, hl', d0, d1, d2, d3, d4, d5, ht'⟩ := HK'.out k hlt'
                      have x0 := cell_regrown ((HBW.out.cell (p := ⟨blk, off + k * 6, none⟩) hl).trans c0)
                      have x1 := cell_regrown ((HBW.out.cell (p := ⟨blk, off + k * 6 + 1, none⟩) hl).trans c1)
                      have x2 := cell_regrown ((HBW.out.cell (p := ⟨blk, off + k * 6 + 2, none⟩) hl).trans c2)
                      have x3 := cell_regrown ((HBW.out.cell (p := ⟨blk, off + k * 6 + 3, none⟩) hl).trans c3)
                      have x4 := cell_regrown ((HBW.out.cell (p := ⟨blk, off + k * 6 + 4, none⟩) hl).trans c4)
                      have x5 := cell_regrown ((HBW.out.cell (p := ⟨blk, off + k * 6 + 5, none⟩) hl).trans c5)
                      have y0 := cell_regrown ((HBW.out.cell (p := ⟨blk', off' + k * 6, none⟩) hl').trans d0)
                      have y1 := cell_regrown ((HBW.out.cell (p := ⟨blk', off' + k * 6 + 1, none⟩) hl').trans d1)
                      have y2 := cell_regrown ((HBW.out.cell (p := ⟨blk', off' + k * 6 + 2, none⟩) hl').trans d2)
                      have y3 := cell_regrown ((HBW.out.cell (p := ⟨blk', off' + k * 6 + 3, none⟩) hl').trans d3)
                      have y4 := cell_regrown ((HBW.out.cell (p := ⟨blk', off' + k * 6 + 4, none⟩) hl').trans d4)
                      have y5 := cell_regrown ((HBW.out.cell (p := ⟨blk', off' + k * 6 + 5, none⟩) hl').trans d5)
                      have k3 := cell_regrown p3
                      have m3 := cell_regrown q3
                      have i1 : (k : Int) < (kids.length : Int) := by omega
                      have i3 : (k : Int) < (kids'.length : Int) := by omega
                      have i2 : (0 : Int) ≤ (k : Int) := by omega
                      have hw1 : IntKind.i64.wrap ((k : Int) + 1) = (k : Int) + 1 := IntWalk.i64_in _ (by omega)
                      have HI := Lib.hid fun d os => IH.out k hlt hlt' (grow (redrawn wr d) os) _ _ (NAt.later ((below_regrown wr d os).mono HBW.out.size |> HBW.out.trans) _ _ ht) (NAt.later ((below_regrown wr d os).mono HBW.out.size |> HBW.out.trans) _ _ ht')
                      have HY2 : Hid (kids[k] = kids'[k] → ∀ i (h : i < kids.length) (h' : i < kids'.length), i < k + 1 → kids[i] = kids'[i]) := Lib.hid (fun he i h h' hi => by
                        by_cases e : i = k
                        · subst e; exact he
                        · exact HEK.out i h h' (by omega))
                      have HN2 : Hid (¬ kids[k] = kids'[k] → false = B) := Lib.hid (fun he => HNO.out fun h => he (h.2.2.2.2.2 k hlt hlt'))
                      have HS2 : Hid (sameB kids[k] kids'[k] = true ↔ kids[k] = kids'[k]) := Lib.hid (sameB_iff _ _)
                      obtain ⟨S, hS⟩ : ∃ S, sameB kids[k] kids'[k] = S := ⟨_, rfl⟩
                      rw [hS] at HI HS2
                      clear c0 c1 c2 c3 c4 c5 d0 d1 d2 d3 d4 d5 ht ht' hS
                      go_wp2_with fail
                      clear p0 p1 p2 p3 p4 p5 q0 q1 q2 q3 q4 q5
                      refine wp_region_quiet_below (by kernel_rfl) (by kernel_rfl) ?_
                      repeat (first | go_big_quiet_step ((go_at_call 13; exact Calls.regrown_of (HI.out _ _))) | quiet_step ((go_at_call 13; exact Calls.regrown_of (HI.out _ _))))
                      refine wpQuiet_nil ?_
                      clear x0 x1 x2 x3 x4 x5 y0 y1 y2 y3 y4 y5 k3 m3
                      rintro _ ⟨⟨dq, osq⟩, rfl⟩
                      obtain ⟨w3, hw3⟩ : ∃ W, grow (redrawn wr dq) osq = W := ⟨_, rfl⟩
                      have HQ3 : Hid (Below W0.heap.size W0 w3) := Lib.hid (hw3 ▸ HB.out.trans ((below_regrown wr dq osq).mono HB.out.size))
                      dsimp only
                      rw [hw3]
                      clear hw3
                      cases S with
                      | true =>
                        have HE3 := Lib.hid (HY2.out (HS2.out.1 rfl))
                        clear HY2 HN2 HS2
                        go_wp2_with fail
                        go_roundw
                        case rel => exact ⟨k + 1, by go_num, by omega, HQ3, HE3⟩
                        case measure => simp [intOf]; omega
                      | false =>
                        have HX : Hid (false = B) := Lib.hid (HN2.out fun h => by have := HS2.out.2 h; cases this)
                        clear HY2 HN2 HS2
                        go_wp2_with fail
                        go_ret
                        exact ⟨ret_bool HX.out, (HB0.out.trans (HQ3.out.mono HB0.out.size))⟩
                    · obtain rfl : k = kids.length := by omega
                      have HX : Hid (true = B) := Lib.hid (HYY.out ⟨rfl, rfl, rfl, rfl, fun i h h' => HEQ.out i h h' h, fun i h h' => HEK.out i h h' h⟩ HRL.out HKL.out)
                      go_wp2_with fail
                      go_ret
                      exact ⟨ret_bool HX.out, HBW.out⟩
            · have zkl : ((kids.length : Int) == (kids'.length : Int)) = false := by rw [beq_eq_false_iff_ne]; omega
              have ykl : ((kids.length : Int) != (kids'.length : Int)) = true := by simp only [bne, zkl, Bool.not_false]
              have xkl : (kids.length == kids'.length) = false := by rw [beq_eq_false_iff_ne]; exact hkl
              have wkl : (kids.length != kids'.length) = true := by simp only [bne, xkl, Bool.not_false]
              have HX : Hid (false = B) := Lib.hid (HLK.out hkl)
              go_wp2_with fail
              all_goals (first | (go_ret; exact ⟨ret_bool HX.out, HB0.out⟩) | (exfalso; simp_all; done) | (exfalso; omega))
          · have zrl : ((rs.length : Int) == (rs'.length : Int)) = false := by rw [beq_eq_false_iff_ne]; omega
            have yrl : ((rs.length : Int) != (rs'.length : Int)) = true := by simp only [bne, zrl, Bool.not_false]
            have xrl : (rs.length == rs'.length) = false := by rw [beq_eq_false_iff_ne]; exact hrl
            have wrl : (rs.length != rs'.length) = true := by simp only [bne, xrl, Bool.not_false]
            have HX : Hid (false = B) := Lib.hid (HLR.out hrl)
            go_wp2_with fail
            all_goals (first | (go_ret; exact ⟨ret_bool HX.out, HB0.out⟩) | (exfalso; simp_all; done) | (exfalso; omega))
        · have zmx : (mx == mx') = false := by rw [beq_eq_false_iff_ne]; omega
          have ymx : (mx != mx') = true := by simp only [bne, zmx, Bool.not_false]
          have HX : Hid (false = B) := Lib.hid (HNO.out fun h => hmx h.2.2.2.1)
          go_wp2_with fail
          all_goals (first | (go_ret; exact ⟨ret_bool HX.out, HB0.out⟩) | (exfalso; simp_all; done) | (exfalso; omega))
      · have zmn : (mn == mn') = false := by rw [beq_eq_false_iff_ne]; omega
        have ymn : (mn != mn') = true := by simp only [bne, zmn, Bool.not_false]
        have HX : Hid (false = B) := Lib.hid (HNO.out fun h => hmn h.2.2.1)
        go_wp2_with fail
        all_goals (first | (go_ret; exact ⟨ret_bool HX.out, HB0.out⟩) | (exfalso; simp_all; done) | (exfalso; omega))
    · have znm : (nm == nm') = false := by exact beq_eq_false_iff_ne.2 hnm'
      have ynm : (nm != nm') = true := by simp only [bne, znm, Bool.not_false]
      have HX : Hid (false = B) := Lib.hid (HNO.out fun h => hnm' h.2.1)
      go_wp2_with fail
      all_goals (first | (go_ret; exact ⟨ret_bool HX.out, HB0.out⟩) | (exfalso; simp_all; done) | (exfalso; omega))
  · have zop : (op == op') = false := by rw [beq_eq_false_iff_ne]; omega
    have yop : (op != op') = true := by simp only [bne, zop, Bool.not_false]
    have HX : Hid (false = B) := Lib.hid (HNO.out fun h => hop h.1)
    go_wp2_with fail
    all_goals (first | (go_ret; exact ⟨ret_bool HX.out, HB0.out⟩) | (exfalso; simp_all; done) | (exfalso; omega))
theorem rsame_any (t u : NT) (v x : Value) (w : World) (h : NAt w t v) (h2 : NAt w u x) :
    Calls Tryz.prog 13 #[v, x] w fun e w' => e = .returned (.bool (sameB t u)) ∧ Below w.heap.size w w' := rsame_aux _ t u v x w (Nat.lt_succ_self _) h h2
end Go.Proofs.YtphbkompnddflaaGreatDoor
/-
  Decimal of the reference of chapter 1: the decimal numeral, of any int.
-/
namespace Go.Proofs.YtphbkompnddflaaGreatDoor
open Go.RowKit Go.Sort

/-- One byte as a string, in whatever world. -/
theorem conv1 (W : World) (b : Nat) (c : Int) (h : W.cell? ⟨b, 0, none⟩ = some (.int .u8 c)) :
    (convert 26 9 (.slice (some ⟨b, 0, none⟩) 1 1)).run Tryz.prog W = .ok (.string ⟨#[UInt8.ofNat c.toNat]⟩) W :=
  run_convert_bytes_arg W 26 5 Tryz.underlying26 Tryz.underlying5 b 0 1 1 [c] rfl (fun i hi => by obtain rfl : i = 0 := (by omega); simpa using h) 9 Tryz.underlying9
theorem conv1_new (w : World) (c : Int) :
    (convert 26 9 (.slice (some ⟨w.heap.size, 0, none⟩) 1 1)).run Tryz.prog (w.alloc (.cells #[.int .u8 c] 5)) = .ok (.string ⟨#[UInt8.ofNat c.toNat]⟩) (w.alloc (.cells #[.int .u8 c] 5)) :=
  conv1 _ _ c (by simp [go_sem])

theorem conv1_drew (w : World) (c : Int) :
    (convert 26 9 (.slice (some ⟨w.heap.size, 0, none⟩) 1 1)).run Tryz.prog (w.alloc (.cells #[.int .u8 c] 5)).drew = .ok (.string ⟨#[UInt8.ofNat c.toNat]⟩) (w.alloc (.cells #[.int .u8 c] 5)).drew :=
  conv1 _ _ c (by simp [go_sem])

theorem conv1_below {w w1 : World} {c : Int} (hb : Below (w.alloc (.cells #[.int .u8 c] 5)).drew.heap.size (w.alloc (.cells #[.int .u8 c] 5)).drew w1) :
    (convert 26 9 (.slice (some ⟨w.heap.size, 0, none⟩) 1 1)).run Tryz.prog w1 = .ok (.string ⟨#[UInt8.ofNat c.toNat]⟩) w1 :=
  conv1 _ _ c ((hb.cell (p := ⟨w.heap.size, 0, none⟩) (by simp)).trans (by simp [go_sem]))

theorem itoa_small (n : Int) (h0 : 0 ≤ n) (h1 : n < 10) : Lib.itoa n = [UInt8.ofNat (48 + n).toNat] := by
  unfold Lib.itoa
  rw [if_neg (by omega), Lib.decDigits_one (by omega)]
  rw [show (48 + n).toNat = 48 + n.toNat by omega]
theorem itoa_big (n : Int) (h : 10 ≤ n) : Lib.itoa n = Lib.itoa (n / 10) ++ [UInt8.ofNat (48 + n % 10).toNat] := by
  unfold Lib.itoa
  rw [if_neg (by omega), if_neg (by omega)]
  rw [Lib.decDigits, dif_neg (by omega)]
  rw [show (n / 10).toNat = n.toNat / 10 by omega, show (48 + n % 10).toNat = 48 + n.toNat % 10 by omega]
theorem itoa_negative (n : Int) (h : n < 0) : Lib.itoa n = 45 :: Lib.itoa (-n) := by
  unfold Lib.itoa
  rw [if_pos h, if_neg (by omega), show n.natAbs = (-n).toNat by omega]

theorem rdec_small (n : Int) (w : World) (h0 : 0 ≤ n) (h1 : n < 10) :
    Calls Tryz.prog 60 #[.int .i64 n] w fun e w' => e = .returned (.string ⟨(Lib.itoa n).toArray⟩) ∧ Below w.heap.size w w' := by
  have e0 : (n == -9223372036854775808) = false := by rw [beq_eq_false_iff_ne]; omega
  have e1 : decide (n < 0) = false := by simpa using h0
  have hf := Lib.hid (itoa_small n h0 h1)
  have kc := conv1_new
  go_enter Tryz.func60, Tryz.ntmps60
  go_wp2_with fail
  go_ret
  exact ⟨ret_val (by rw [hf.out]; rfl), (Below.refl _ _).alloc (Nat.le_refl _) _⟩

theorem below_a {w w1 : World} (hb : Below w.drew.heap.size w.drew w1) (o : Obj) : Below w.heap.size w (w1.alloc o) :=
  ((Below.refl w.heap.size w).drew.trans hb).alloc hb.size o
theorem below_b {w w1 : World} {o : Obj} (hb : Below (w.alloc o).drew.heap.size (w.alloc o).drew w1) : Below w.heap.size w w1 :=
  (((Below.refl w.heap.size w).alloc (Nat.le_refl _) o).drew).trans (hb.mono (by simp))

set_option maxRecDepth 100000 in
theorem rdec_nonneg (k : Nat) : ∀ (n : Int) (w : World), 0 ≤ n → n ≤ 9223372036854775807 → n < 10 ^ k →
    Calls Tryz.prog 60 #[.int .i64 n] w fun e w' => e = .returned (.string ⟨(Lib.itoa n).toArray⟩) ∧ Below w.heap.size w w' := by
  induction k with
  | zero => intro n w h0 _ h2; simp at h2; exact rdec_small n w h0 (by omega)
  | succ k ih =>
    intro n w h0 h1 h2
    by_cases hs : n < 10
    · exact rdec_small n w h0 hs
    · have h3 : n / 10 < 10 ^ k := by rw [Int.pow_succ] at h2; omega
      have IH := Lib.hid fun W => ih (n / 10) W (by omega) (by omega) h3
      have hl := Lib.itoa_length_le (n / 10) (by omega) (by omega)
      have e0 : (n == -9223372036854775808) = false := by rw [beq_eq_false_iff_ne]; omega
      have e1 : decide (n < 0) = false := by simpa using h0
      have hf := Lib.hid (itoa_big n (by omega))
      have kc := conv1_new
      have hs' : 10 ≤ n := by omega
      have q1 : n.tdiv 10 = n / 10 := Int.tdiv_eq_ediv_of_nonneg h0
      have q2 : n.tmod 10 = n % 10 := Int.tmod_eq_emod_of_nonneg h0
      have q3 : IntKind.i64.wrap (n / 10) = n / 10 := IntWalk.i64_in _ ⟨by omega, by omega⟩
      have q4 : IntKind.i64.wrap (48 + n % 10) = 48 + n % 10 := IntWalk.i64_in _ ⟨by omega, by omega⟩
      have q5 : IntKind.u8.wrap (48 + n % 10) = 48 + n % 10 := IntWalk.u8_in _ ⟨by omega, by omega⟩
      have kd := conv1_drew
      clear ih h2 h3 hs
      go_enter Tryz.func60, Tryz.ntmps60
      go_wp2_with fail
      go_region_with (first | (go_at_call 60; refine (IH.out _).mono ?_; rintro e w1 ⟨rfl, hb⟩; (try (have kc2 := conv1_below hb))))
      all_goals go_wp2_with fail
      all_goals go_ret
      all_goals refine ⟨ret_val (by rw [hf.out, ← ba_app]; rfl), ?_⟩
      all_goals first | exact below_a hb _ | exact below_b hb

set_option maxRecDepth 100000 in
theorem rdec_any (n : Int) (w : World) (h0 : -9223372036854775808 ≤ n) (h1 : n ≤ 9223372036854775807) :
    Calls Tryz.prog 60 #[.int .i64 n] w fun e w' => e = .returned (.string ⟨(Lib.itoa n).toArray⟩) ∧ Below w.heap.size w w' := by
  by_cases a : 0 ≤ n
  · exact rdec_nonneg 19 n w a h1 (by omega)
  · by_cases b : n = -9223372036854775808
    · subst b
      have hf : Hid (Lib.itoa (-9223372036854775808) = [45, 57, 50, 50, 51, 51, 55, 50, 48, 51, 54, 56, 53, 52, 55, 55, 53, 56, 48, 56]) := by
        show Lib.itoa (-9223372036854775808) = _
        decide +kernel
      clear h0 h1 a
      go_enter Tryz.func60, Tryz.ntmps60
      go_wp2_with fail
      go_ret
      exact ⟨ret_val (by rw [hf.out]; rfl), Below.refl _ _⟩
    · have e0 : (n == -9223372036854775808) = false := by rw [beq_eq_false_iff_ne]; exact b
      have IH := Lib.hid fun W => rdec_nonneg 19 (-n) W (by omega) (by omega) (by omega)
      have hl := Lib.itoa_length_le (-n) (by omega) (by omega)
      have hf := Lib.hid (itoa_negative n (by omega))
      have a' : n < 0 := by omega
      have e1 : decide (n < 0) = true := by simpa using a'
      have h0' : -9223372036854775807 ≤ n := by omega
      clear b a h0
      go_enter Tryz.func60, Tryz.ntmps60
      go_wp2_with (go_at_call 60; refine (IH.out _).mono ?_; rintro e w1 ⟨rfl, hb⟩)
      go_ret
      exact ⟨ret_val (by rw [hf.out, show (45 :: Lib.itoa (-n)) = [45] ++ Lib.itoa (-n) from rfl, ← ba_app]; rfl), hb⟩


end Go.Proofs.YtphbkompnddflaaGreatDoor
/-
  Writing of the reference: a byte, ranges, bounds.
-/
namespace Go.Proofs.YtphbkompnddflaaGreatDoor
open Go.RowKit Go.Sort

/-- How a byte is written, if it can be. -/
def memB (c : UInt8) : Bool := decide (wrB c ≠ [])
theorem conv_u8 (w : World) (c : UInt8) :
    (convert 26 9 (.slice (some ⟨w.heap.size, 0, none⟩) 1 1)).run Tryz.prog (w.alloc (.cells #[.int .u8 (c.toNat : Int)] 5)) = .ok (.string ⟨#[c]⟩) (w.alloc (.cells #[.int .u8 (c.toNat : Int)] 5)) := by
  have := conv1_new w (c.toNat : Int)
  rw [show UInt8.ofNat ((c.toNat : Int)).toNat = c by simp] at this
  exact this
set_option maxHeartbeats 4000000 in
set_option maxRecDepth 1000000 in
theorem member_nl (w : World) : Calls Tryz.prog 72 #[.int .u8 10] w fun e w' => e = .returned (.tuple #[.string ⟨#[92, 110]⟩, .bool true]) ∧ Below w.heap.size w w' := by
  go_enter Tryz.func72, Tryz.ntmps72
  go_wp2_with fail
  go_ret2
  exact ⟨rfl, Below.refl _ _⟩
set_option maxHeartbeats 4000000 in
set_option maxRecDepth 1000000 in
theorem member_tab (w : World) : Calls Tryz.prog 72 #[.int .u8 9] w fun e w' => e = .returned (.tuple #[.string ⟨#[92, 116]⟩, .bool true]) ∧ Below w.heap.size w w' := by
  go_enter Tryz.func72, Tryz.ntmps72
  go_wp2_with fail
  go_ret2
  exact ⟨rfl, Below.refl _ _⟩
set_option maxHeartbeats 4000000 in
set_option maxRecDepth 1000000 in
theorem member_a (w : World) : Calls Tryz.prog 72 #[.int .u8 93] w fun e w' => e = .returned (.tuple #[.string ⟨#[92, 93]⟩, .bool true]) ∧ Below w.heap.size w w' := by
  have kc : (convert 26 9 (.slice (some ⟨w.heap.size, 0, none⟩) 1 1)).run Tryz.prog (w.alloc (.cells #[.int .u8 93] 5)) = .ok (.string ⟨#[93]⟩) (w.alloc (.cells #[.int .u8 93] 5)) := conv_u8 w 93
  go_enter Tryz.func72, Tryz.ntmps72
  go_wp2_with fail
  go_ret2
  exact ⟨ret_val (by rfl), (Below.refl _ _).alloc (Nat.le_refl _) _⟩
set_option maxHeartbeats 4000000 in
set_option maxRecDepth 1000000 in
theorem member_b (w : World) : Calls Tryz.prog 72 #[.int .u8 45] w fun e w' => e = .returned (.tuple #[.string ⟨#[92, 45]⟩, .bool true]) ∧ Below w.heap.size w w' := by
  have kc : (convert 26 9 (.slice (some ⟨w.heap.size, 0, none⟩) 1 1)).run Tryz.prog (w.alloc (.cells #[.int .u8 45] 5)) = .ok (.string ⟨#[45]⟩) (w.alloc (.cells #[.int .u8 45] 5)) := conv_u8 w 45
  go_enter Tryz.func72, Tryz.ntmps72
  go_wp2_with fail
  go_ret2
  exact ⟨ret_val (by rfl), (Below.refl _ _).alloc (Nat.le_refl _) _⟩
set_option maxHeartbeats 4000000 in
set_option maxRecDepth 1000000 in
theorem member_c (w : World) : Calls Tryz.prog 72 #[.int .u8 94] w fun e w' => e = .returned (.tuple #[.string ⟨#[92, 94]⟩, .bool true]) ∧ Below w.heap.size w w' := by
  have kc : (convert 26 9 (.slice (some ⟨w.heap.size, 0, none⟩) 1 1)).run Tryz.prog (w.alloc (.cells #[.int .u8 94] 5)) = .ok (.string ⟨#[94]⟩) (w.alloc (.cells #[.int .u8 94] 5)) := conv_u8 w 94
  go_enter Tryz.func72, Tryz.ntmps72
  go_wp2_with fail
  go_ret2
  exact ⟨ret_val (by rfl), (Below.refl _ _).alloc (Nat.le_refl _) _⟩
set_option maxHeartbeats 4000000 in
set_option maxRecDepth 1000000 in
theorem member_d (w : World) : Calls Tryz.prog 72 #[.int .u8 92] w fun e w' => e = .returned (.tuple #[.string ⟨#[92, 92]⟩, .bool true]) ∧ Below w.heap.size w w' := by
  have kc : (convert 26 9 (.slice (some ⟨w.heap.size, 0, none⟩) 1 1)).run Tryz.prog (w.alloc (.cells #[.int .u8 92] 5)) = .ok (.string ⟨#[92]⟩) (w.alloc (.cells #[.int .u8 92] 5)) := conv_u8 w 92
  go_enter Tryz.func72, Tryz.ntmps72
  go_wp2_with fail
  go_ret2
  exact ⟨ret_val (by rfl), (Below.refl _ _).alloc (Nat.le_refl _) _⟩
set_option maxHeartbeats 4000000 in
set_option maxRecDepth 1000000 in
theorem member_self (c : UInt8) (w : World) (h1 : c.toNat ≠ 10) (h2 : c.toNat ≠ 9) (h3 : c.toNat ≠ 93) (h4 : c.toNat ≠ 45) (h5 : c.toNat ≠ 94) (h6 : c.toNat ≠ 92) : Calls Tryz.prog 72 #[.int .u8 (c.toNat : Int)] w fun e w' => e = .returned (.tuple #[.string ⟨#[c]⟩, .bool (decide (32 ≤ c.toNat) && decide (c.toNat ≤ 126))]) ∧ Below w.heap.size w w' := by
  have kc := conv_u8 w c
  have z1 : ((c.toNat : Int) == 10) = false := by rw [beq_eq_false_iff_ne]; omega
  have z2 : ((c.toNat : Int) == 9) = false := by rw [beq_eq_false_iff_ne]; omega
  have z3 : ((c.toNat : Int) == 93) = false := by rw [beq_eq_false_iff_ne]; omega
  have z4 : ((c.toNat : Int) == 45) = false := by rw [beq_eq_false_iff_ne]; omega
  have z5 : ((c.toNat : Int) == 94) = false := by rw [beq_eq_false_iff_ne]; omega
  have z6 : ((c.toNat : Int) == 92) = false := by rw [beq_eq_false_iff_ne]; omega
  clear h1 h2 h3 h4 h5 h6
  by_cases a : 32 ≤ c.toNat
  · have y1 : decide ((32 : Int) ≤ (c.toNat : Int)) = true := decide_eq_true (by omega)
    have x1 : decide (32 ≤ c.toNat) = true := decide_eq_true a
    by_cases b : c.toNat ≤ 126
    · have y2 : decide ((c.toNat : Int) ≤ 126) = true := decide_eq_true (by omega)
      have x2 : decide (c.toNat ≤ 126) = true := decide_eq_true b
      go_enter Tryz.func72, Tryz.ntmps72
      go_wp2_with fail
      go_ret2
      exact ⟨by rw [x1, x2]; rfl, (Below.refl _ _).alloc (Nat.le_refl _) _⟩
    · have y2 : decide ((c.toNat : Int) ≤ 126) = false := decide_eq_false (by omega)
      have x2 : decide (c.toNat ≤ 126) = false := decide_eq_false b
      go_enter Tryz.func72, Tryz.ntmps72
      go_wp2_with fail
      go_ret2
      exact ⟨by rw [x1, x2]; rfl, (Below.refl _ _).alloc (Nat.le_refl _) _⟩
  · have y1 : decide ((32 : Int) ≤ (c.toNat : Int)) = false := decide_eq_false (by omega)
    have x1 : decide (32 ≤ c.toNat) = false := decide_eq_false a
    go_enter Tryz.func72, Tryz.ntmps72
    go_wp2_with fail
    go_ret2
    exact ⟨by rw [x1]; rfl, (Below.refl _ _).alloc (Nat.le_refl _) _⟩
theorem member_any (c : UInt8) (w : World) : Calls Tryz.prog 72 #[.int .u8 (c.toNat : Int)] w fun e w' => ∃ s : List UInt8, e = .returned (.tuple #[.string ⟨s.toArray⟩, .bool (memB c)]) ∧ (memB c = true → s = wrB c) ∧ s.length ≤ 2 ∧ Below w.heap.size w w' := by
  by_cases h1 : c = 10
  · subst h1
    exact (member_nl w).mono fun _ _ ⟨h, k⟩ => ⟨[92, 110], h, fun _ => rfl, by decide, k⟩
  by_cases h2 : c = 9
  · subst h2
    exact (member_tab w).mono fun _ _ ⟨h, k⟩ => ⟨[92, 116], h, fun _ => rfl, by decide, k⟩
  by_cases h3 : c = 93
  · subst h3
    exact (member_a w).mono fun _ _ ⟨h, k⟩ => ⟨[92, 93], h, fun _ => rfl, by decide, k⟩
  by_cases h4 : c = 45
  · subst h4
    exact (member_b w).mono fun _ _ ⟨h, k⟩ => ⟨[92, 45], h, fun _ => rfl, by decide, k⟩
  by_cases h5 : c = 94
  · subst h5
    exact (member_c w).mono fun _ _ ⟨h, k⟩ => ⟨[92, 94], h, fun _ => rfl, by decide, k⟩
  by_cases h6 : c = 92
  · subst h6
    exact (member_d w).mono fun _ _ ⟨h, k⟩ => ⟨[92, 92], h, fun _ => rfl, by decide, k⟩
  have no : ∀ d : UInt8, c ≠ d → c.toNat ≠ d.toNat := fun d hd e => hd (UInt8.toNat_inj.1 e)
  have hodd : c ∉ oddL := by
    unfold oddL
    simp only [List.mem_cons, List.not_mem_nil, or_false]
    rintro (h | h | h | h)
    · exact h3 h
    · exact h4 h
    · exact h5 h
    · exact h6 h
  have hm : memB c = (decide (32 ≤ c.toNat) && decide (c.toNat ≤ 126)) := by
    unfold memB wrB
    rw [if_neg h1, if_neg h2]
    by_cases h : c.toNat < 32 ∨ 126 < c.toNat
    · rw [if_pos h]
      rcases h with h | h
      · rw [decide_eq_false (show ¬ 32 ≤ c.toNat by omega)]; rfl
      · rw [decide_eq_false (show ¬ c.toNat ≤ 126 by omega), Bool.and_false]; rfl
    · rw [if_neg h, if_neg hodd, decide_eq_true (show 32 ≤ c.toNat by omega), decide_eq_true (show c.toNat ≤ 126 by omega)]
      rfl
  rw [hm]
  refine (member_self c w (no 10 h1) (no 9 h2) (no 93 h3) (no 45 h4) (no 94 h5) (no 92 h6)).mono fun _ _ ⟨h, k⟩ => ⟨[c], h, fun hb => ?_, by simp, k⟩
  rw [Bool.and_eq_true, decide_eq_true_iff, decide_eq_true_iff] at hb
  unfold wrB
  rw [if_neg h1, if_neg h2, if_neg (by omega), if_neg hodd]
theorem wrR_ne {r : UInt8 × UInt8} (h : canR r = true) : wrR r ≠ [] := by
  unfold canR at h
  rw [Bool.and_eq_true, decide_eq_true_iff] at h
  unfold wrR
  exact fun e => h.1 (List.append_eq_nil_iff.1 e).1
theorem itm_pos {rs : List (UInt8 × UInt8)} (h : itmO rs = true) : decide (itmL rs ≠ []) = decide (0 < rs.length) := by
  cases rs with
  | nil => rfl
  | cons r rs =>
    unfold itmO at h
    rw [List.all_cons, Bool.and_eq_true] at h
    rw [decide_eq_true (show 0 < (r :: rs).length by simp)]
    refine decide_eq_true fun e => ?_
    unfold itmL at e
    rw [List.map_cons, List.flatten_cons] at e
    exact wrR_ne h.1 (List.append_eq_nil_iff.1 e).1
set_option maxHeartbeats 8000000 in
set_option maxRecDepth 1000000 in
theorem members_any (rs : List (UInt8 × UInt8)) (v : Value) (w : World) (h : RgAt w rs v) (hl : rs.length ≤ 256) : Calls Tryz.prog 57 #[v] w fun e w' => e = .returned (.tuple #[.string ⟨(itmS rs).toArray⟩, .bool (itmB rs)]) ∧ Below w.heap.size w w' := by
  obtain ⟨a, c, rfl, hm, hk⟩ := h
  have HK := Lib.hid hk
  obtain ⟨S, hS⟩ : ∃ S, itmS rs = S := ⟨_, rfl⟩
  obtain ⟨B, hB⟩ : ∃ B, itmB rs = B := ⟨_, rfl⟩
  have HBAD : Hid (itmO rs = false → S = [] ∧ B = false) := Lib.hid (fun h0 => ⟨by rw [← hS]; unfold itmS; rw [h0]; rfl, by rw [← hB]; unfold itmB; rw [h0]; rfl⟩)
  have HGOOD : Hid (itmO rs = true → S = itmL rs ∧ B = decide (0 < rs.length)) := Lib.hid (fun h0 => ⟨by rw [← hS]; unfold itmS; rw [h0]; rfl, by rw [← hB, ← itm_pos h0]; unfold itmB; rw [h0]; rfl⟩)
  rw [hS, hB]
  clear hk hS hB
  go_enter Tryz.func57, Tryz.ntmps57
  go_wp2_with fail
  go_loopw [4, 5] (fun s i wr => ∃ (k : Nat) (acc : List UInt8), i = .int .i64 k ∧ s = .string ⟨acc.toArray⟩ ∧ k ≤ rs.length ∧ acc.length ≤ 5 * k ∧ Hid (acc = itmL (rs.take k) ∧ itmO (rs.take k) = true) ∧ Hid (Below w.heap.size w wr)) (fun _ i _ => rs.length - (intOf i).toNat)
  case atStart => exact ⟨0, [], rfl, rfl, by omega, by simp, Lib.hid ⟨rfl, rfl⟩, Lib.hid (Below.refl _ _)⟩
  case round =>
    obtain ⟨k, acc, rfl, rfl, hkl, hal, HA, HB⟩ := hrel
    by_cases hlt : k < rs.length
    · obtain ⟨blk, off, rfl, hbl, c0, c1⟩ := HK.out k hlt
      have e0 := (HB.out.cell (p := ⟨blk, off + k * 2, none⟩) hbl).trans c0
      have e1 := (HB.out.cell (p := ⟨blk, off + k * 2 + 1, none⟩) hbl).trans c1
      have i1 : (k : Int) < (rs.length : Int) := by omega
      have i2 : (0 : Int) ≤ (k : Int) := by omega
      have hw1 : IntKind.i64.wrap ((k : Int) + 1) = (k : Int) + 1 := IntWalk.i64_in _ (by omega)
      have HSN := Lib.hid (itmL_snoc rs k hlt)
      have HON := Lib.hid (itmO_snoc rs k hlt)
      have HOB := Lib.hid (itmO_bad rs k hlt)
      obtain ⟨r, hr⟩ : ∃ r, rs[k] = r := ⟨_, rfl⟩
      rw [hr] at e0 e1 HSN HON HOB
      obtain ⟨lo, hi⟩ := r
      simp only at e0 e1
      have HM := Lib.hid fun c W => member_any c W
      have HR : Hid (wrR (lo, hi) = wrB lo ++ (if lo = hi then [] else 45 :: wrB hi)) := Lib.hid rfl
      have HCN : Hid (canR (lo, hi) = (memB lo && memB hi)) := Lib.hid rfl
      clear c0 c1 hr
      go_wp2_with fail
      refine (HM.out _ _).mono ?_
      rintro e w2 ⟨s1, rfl, hs1, hl1, hb⟩
      have HB2 := Lib.hid (HB.out.trans (hb.mono HB.out.size))
      have E0 := (hb.cell (p := ⟨blk, off + k * 2, none⟩) (Nat.lt_of_lt_of_le hbl HB.out.size)).trans e0
      have E1 := (hb.cell (p := ⟨blk, off + k * 2 + 1, none⟩) (Nat.lt_of_lt_of_le hbl HB.out.size)).trans e1
      have HS1 := Lib.hid hs1
      clear hb hs1 e0 e1
      go_wp2_with fail
      refine (HM.out _ _).mono ?_
      rintro e w3 ⟨s2, rfl, hs2, hl2, hb⟩
      have HB3 := Lib.hid (HB2.out.trans (hb.mono HB2.out.size))
      have e0 := (hb.cell (p := ⟨blk, off + k * 2, none⟩) (Nat.lt_of_lt_of_le hbl HB2.out.size)).trans E0
      have e1 := (hb.cell (p := ⟨blk, off + k * 2 + 1, none⟩) (Nat.lt_of_lt_of_le hbl HB2.out.size)).trans E1
      have HS2 := Lib.hid hs2
      clear hb hs2 E0 E1 HB2
      obtain ⟨b1, hb1⟩ : ∃ b1, memB lo = b1 := ⟨_, rfl⟩
      obtain ⟨b2, hb2⟩ : ∃ b2, memB hi = b2 := ⟨_, rfl⟩
      rw [hb1] at HS1 HCN ⊢
      rw [hb2] at HS2 HCN ⊢
      clear hb1 hb2
      cases b1 with
      | false =>
        have HF := Lib.hid (HBAD.out (HOB.out (by rw [HCN.out]; rfl)))
        go_wp2_with fail
        go_ret2
        exact ⟨by rw [HF.out.1, HF.out.2]; rfl, HB3.out⟩
      | true =>
        cases b2 with
        | false =>
          have HF := Lib.hid (HBAD.out (HOB.out (by rw [HCN.out]; rfl)))
          go_wp2_with fail
          go_ret2
          exact ⟨by rw [HF.out.1, HF.out.2]; rfl, HB3.out⟩
        | true =>
          have HO : Hid (itmO (rs.take (k + 1)) = true) := Lib.hid (by rw [HON.out, HA.out.2, HCN.out]; rfl)
          rw [← HS1.out rfl, ← HS2.out rfl] at HR
          have n1 : ¬ 9223372036854775807 < acc.length + s1.length := by omega
          have n2 : ¬ 9223372036854775807 < 1 + s2.length := by omega
          have n3 : ¬ 9223372036854775807 < acc.length + s1.length + (1 + s2.length) := by omega
          have lw := Nat.lt_of_lt_of_le hbl HB3.out.size
          clear HS1 HS2 HCN HON HOB
          by_cases he : lo = hi
          · have HSE : Hid (itmL (rs.take (k + 1)) = acc ++ s1) := Lib.hid (by rw [HSN.out, HR.out, if_pos he, List.append_nil, ← HA.out.1])
            subst he
            go_wp2_with fail
            go_quiet (fail)
            go_wp2_with fail
            all_goals try (exfalso; omega)
            refine ⟨⟨k + 1, acc ++ s1, by go_num, by rw [ba_app], by omega, by rw [List.length_append]; omega, Lib.hid ⟨HSE.out.symm, HO.out⟩, Lib.hid (below_drewN HB3.out _)⟩, by simp [intOf]; omega⟩
          · have HSE : Hid (itmL (rs.take (k + 1)) = acc ++ (s1 ++ 45 :: s2)) := Lib.hid (by rw [HSN.out, HR.out, if_neg he, ← HA.out.1])
            have hne : hi.toNat ≠ lo.toNat := fun e => he (UInt8.toNat_inj.1 e.symm)
            have z1 : ((hi.toNat : Int) != (lo.toNat : Int)) = true := by simp; omega
            have z2 : ((hi.toNat : Int) == (lo.toNat : Int)) = false := by rw [beq_eq_false_iff_ne]; omega
            obtain ⟨lo', hlo'⟩ : ∃ x, lo.toNat = x := ⟨_, rfl⟩
            obtain ⟨hi', hhi'⟩ : ∃ x, hi.toNat = x := ⟨_, rfl⟩
            rw [hlo'] at e0 z1 z2
            rw [hhi'] at e1 z1 z2
            clear he hne hlo' hhi'
            go_wp2_with fail
            go_quiet (fail)
            go_wp2_with fail
            all_goals try (exfalso; omega)
            refine ⟨⟨k + 1, acc ++ (s1 ++ 45 :: s2), by go_num, ?_, by omega, by simp only [List.length_append, List.length_cons]; omega, Lib.hid ⟨HSE.out.symm, HO.out⟩, Lib.hid (below_drewN HB3.out _)⟩, by simp [intOf]; omega⟩
            rw [← ba_app acc, ← ba_app s1]
            first
            | rfl
            | (simp only [ba_app, List.append_assoc]; rfl)
    · have z1 : decide ((k : Int) < (rs.length : Int)) = false := decide_eq_false (by omega)
      have y1 : decide (k < rs.length) = false := decide_eq_false hlt
      have hk2 : rs.take k = rs := List.take_of_length_le (by omega)
      have HG : Hid (S = acc ∧ B = decide (0 < rs.length)) := Lib.hid (by
        have h1 := HA.out
        rw [hk2] at h1
        have h2 := HGOOD.out h1.2
        rw [h1.1]
        exact h2)
      obtain ⟨Z, hZ⟩ : ∃ Z, decide (0 < rs.length) = Z := ⟨_, rfl⟩
      have z3 : decide ((0 : Int) < (rs.length : Int)) = Z := by rw [← hZ]; exact decide_eq_decide.2 (by omega)
      clear hk2 hal
      go_wp2_with fail
      go_ret2
      exact ⟨by rw [HG.out.1, HG.out.2]; first | rfl | (rw [hZ]; rfl) | simp, HB.out⟩

theorem dec_itoa (n : Nat) : Lib.itoa (n : Int) = Lib.decDigits n := by
  unfold Lib.itoa
  rw [if_neg (by omega)]
  rfl
set_option maxHeartbeats 4000000 in
set_option maxRecDepth 100000 in
theorem times_any (lo hi : Int) (h0 : 0 ≤ lo) (h1 : lo ≤ 40) (h2 : hi = -1 ∨ (lo ≤ hi ∧ hi ≤ 40)) (w : World) : Calls Tryz.prog 43 #[.int .i64 lo, .int .i64 hi] w fun e w' => e = .returned (.string ⟨(bdsL lo hi).toArray⟩) ∧ Below w.heap.size w w' := by
  obtain ⟨l, rfl⟩ : ∃ l : Nat, lo = l := ⟨lo.toNat, by omega⟩
  have HD := Lib.hid fun (n : Nat) (h : n ≤ 40) W => (show Calls Tryz.prog 60 #[.int .i64 (n : Int)] W fun e w' => e = .returned (.string ⟨(Lib.decDigits n).toArray⟩) ∧ Below W.heap.size W w' by rw [← dec_itoa]; exact rdec_any n W (by omega) (by omega))
  have hd1 := dec_len l (by omega)
  rcases h2 with rfl | ⟨h3, h4⟩
  · have HE : Hid (bdsL l (-1) = [123] ++ Lib.decDigits l ++ [44, 125]) := Lib.hid (by unfold bdsL decL; simp)
    have HD1 := Lib.hid fun W => HD.out l (by omega) W
    obtain ⟨D, hD⟩ : ∃ D, Lib.decDigits l = D := ⟨_, rfl⟩
    rw [hD] at HD1 hd1 HE
    have n1 : ¬ 9223372036854775807 < 1 + D.length := by omega
    have n2 : ¬ 9223372036854775807 < 1 + D.length + 2 := by omega
    have z1 : ((-1 : Int) == (l : Int)) = false := by rw [beq_eq_false_iff_ne]; omega
    clear hD HD
    go_enter Tryz.func43, Tryz.ntmps43
    go_wp2_with fail
    refine (HD1.out _).mono ?_
    rintro e w1 ⟨rfl, hb⟩
    go_wp2_with fail
    all_goals try (exfalso; omega)
    go_ret
    exact ⟨ret_val (by rw [HE.out, ← ba_app, ← ba_app]; rfl), hb⟩
  · obtain ⟨m, rfl⟩ : ∃ m : Nat, hi = m := ⟨hi.toNat, by omega⟩
    have hd2 := dec_len m (by omega)
    by_cases e : m = l
    · subst e
      have HE : Hid (bdsL m m = [123] ++ Lib.decDigits m ++ [125]) := Lib.hid (by unfold bdsL decL; rw [if_neg (by omega)]; simp)
      have HD1 := Lib.hid fun W => HD.out m (by omega) W
      obtain ⟨D, hD⟩ : ∃ D, Lib.decDigits m = D := ⟨_, rfl⟩
      rw [hD] at HD1 hd1 HE
      have n1 : ¬ 9223372036854775807 < 1 + D.length := by omega
      have n2 : ¬ 9223372036854775807 < 1 + D.length + 1 := by omega
      clear hD HD
      go_enter Tryz.func43, Tryz.ntmps43
      go_wp2_with fail
      refine (HD1.out _).mono ?_
      rintro e w1 ⟨rfl, hb⟩
      go_wp2_with fail
      all_goals try (exfalso; omega)
      go_ret
      exact ⟨ret_val (by rw [HE.out, ← ba_app, ← ba_app]; rfl), hb⟩
    · have HE : Hid (bdsL l m = [123] ++ Lib.decDigits l ++ [44] ++ Lib.decDigits m ++ [125]) := Lib.hid (by unfold bdsL decL; rw [if_neg (by omega), if_neg (by omega)]; simp)
      have HD1 := Lib.hid fun W => HD.out l (by omega) W
      have HD2 := Lib.hid fun W => HD.out m (by omega) W
      obtain ⟨D, hD⟩ : ∃ D, Lib.decDigits l = D := ⟨_, rfl⟩
      obtain ⟨D2, hD2⟩ : ∃ D, Lib.decDigits m = D := ⟨_, rfl⟩
      rw [hD] at HD1 hd1 HE
      rw [hD2] at HD2 hd2 HE
      have n1 : ¬ 9223372036854775807 < 1 + D.length := by omega
      have n2 : ¬ 9223372036854775807 < 1 + D.length + 1 := by omega
      have n3 : ¬ 9223372036854775807 < 1 + D.length + 1 + D2.length := by omega
      have n4 : ¬ 9223372036854775807 < 1 + D.length + 1 + D2.length + 1 := by omega
      have z1 : ((m : Int) == (l : Int)) = false := by rw [beq_eq_false_iff_ne]; omega
      have z2 : ((m : Int) == -1) = false := by rw [beq_eq_false_iff_ne]; omega
      clear hD hD2 HD
      go_enter Tryz.func43, Tryz.ntmps43
      go_wp2_with fail
      refine (HD1.out _).mono ?_
      rintro e w1 ⟨rfl, hb⟩
      go_wp2_with fail
      all_goals try (exfalso; omega)
      refine (HD2.out _).mono ?_
      rintro e w2 ⟨rfl, hb2⟩
      go_wp2_with fail
      all_goals try (exfalso; omega)
      go_ret
      exact ⟨ret_val (by rw [HE.out, ← ba_app, ← ba_app, ← ba_app, ← ba_app]; rfl), hb.trans (hb2.mono hb.size)⟩
end Go.Proofs.YtphbkompnddflaaGreatDoor
/-
  Sets of bytes of the reference: more bytes, its ranges, how a class is written.
-/
namespace Go.Proofs.YtphbkompnddflaaGreatDoor
open Go.RowKit

theorem infoQ : (Tryz.prog.info? 100).map (fun i => (i.zero, i.size)) = some (some (.agg (Array.replicate 256 (.bool false))), 256) := by kernel_rfl
theorem undQ : Tryz.prog.underlying 100 = some (.array 256 4) := by kernel_rfl
theorem wp_load_setQ {o : Oper} {a : Act} {w : World} {K : Act → World → Prop} {Q : Exit → Act → World → Prop} (x : Operand) (ho : o.op = .load 100 x) (g : Nat) (hx : a.eval x = .pointer (some ⟨g, 0, none⟩)) (f : Nat → Bool) (t : TypeId) (hg : w.heap[g]? = some (.cells (setA f) t (0, 0)))
    (h : K (a.put o.dst (.agg (setA f))) w) : o.wp Tryz.prog a w K Q := wp_load_row _ x ho g hx t (setA f) (0, 0) _ hg undQ rfl (by rw [setA_size]; exact (zero_of_info infoQ).2) h
theorem ret_setQ {fn : Func} {p : Tmp} (hfn : fn.results = #[.cell p 100]) {w : World} {f : Nat → Bool} {g : Nat} {t : TypeId} (hg : w.heap[g]? = some (.cells (setA f) t (0, 0))) {tmps : Array Value} {df : _} (hdf : df = []) (hp : tmps.getD p undef = .pointer (some ⟨g, 0, none⟩)) {post : Ending → World → Prop} (h : post (.returned (.agg (setA f))) w) :
    bodyPost Tryz.prog fn post Exit.ret { tmps := tmps, defers := df } w := bodyPost_ret (results_cell_row hfn tmps w g t (setA f) (0, 0) _ hp hg undQ rfl (by rw [setA_size]; exact (zero_of_info infoQ).2)) hdf h
/-- A set in a block. -/
def SbQ (b : Nat) (f : Nat → Bool) (w : World) : Prop := w.heap[b]? = some (.cells (setA f) 100 (0, 0))
theorem SbQ.cell {b : Nat} {f : Nat → Bool} {w : World} (h : SbQ b f w) {i : Nat} (hi : i < 256) : w.cell? ⟨b, i, none⟩ = some (.bool (f i)) := by
  rw [cell_of_row _ _ _ _ _ _ h]
  exact setA_at f hi
theorem SbQ.lt {b : Nat} {f : Nat → Bool} {w : World} (h : SbQ b f w) : b < w.heap.size := (Array.getElem?_eq_some_iff.1 h).1
theorem SbQ.fz {b : Nat} {f : Nat → Bool} {w : World} (h : SbQ b f w) (i : Nat) : w.frozen? ⟨b, i, none⟩ = false := Lib.frozen_of_heap h i
theorem SbQ.set {b : Nat} {f : Nat → Bool} {w : World} (h : SbQ b f w) (k : Nat) (x : Bool) : SbQ b (fun j => if j = k then x else f j) (w.setCell ⟨b, k, none⟩ (.bool x)) := by
  unfold SbQ
  rw [← setA_set]
  exact heap_setCell_same w b k _ _ _ h
theorem SbQ.other {b b' : Nat} {f : Nat → Bool} {w : World} (h : SbQ b f w) (k : Nat) (v : Value) (hn : b ≠ b') : SbQ b f (w.setCell ⟨b', k, none⟩ v) := (heap_setCell_other w ⟨b', k, none⟩ b v hn).trans h
theorem SbQ.on {b B : Nat} {f : Nat → Bool} {w w' : World} (h : SbQ b f w) (k : Below B w w') (hb : b < B) : SbQ b f w' := (k.block b hb).trans h
theorem SbQ.eq {b : Nat} {f g : Nat → Bool} {w : World} (h : SbQ b f w) (e : setA f = setA g) : SbQ b g w := by unfold SbQ; rw [← e]; exact h
theorem SbQ.new (w : World) (f : Nat → Bool) : SbQ w.heap.size f (w.alloc (.cells (setA f) 100)) := heap_alloc_new w _
theorem wpl_load_setQ {ops : Array Oper} {rest : List Oper} {o : Oper} {a : Act} {w : World} {Q : Exit → Act → World → Prop} (hgd : o.guard = none) (x : Operand) (ho : o.op = .load 100 x) (g : Nat) (hx : a.eval x = .pointer (some ⟨g, 0, none⟩)) (f : Nat → Bool) (hg : SbQ g f w)
    (h : wpList Tryz.prog ops Q rest (a.put o.dst (.agg (setA f))) w) : wpList Tryz.prog ops Q (o :: rest) a w :=
  wpList_plain hgd fun _ hK => wp_load_setQ x ho g hx f _ hg (hK _ _ h)
theorem wps_load_setQ {ops : Array Oper} {rest : List Oper} {o : Oper} {a : Act} {w : World} {Q : Act → Prop} (hgd : ∀ y, Region.wanted o y = true) (x : Operand) (ho : o.op = .load 100 x) (g : Nat) (hx : a.eval x = .pointer (some ⟨g, 0, none⟩)) (f : Nat → Bool) (hg : SbQ g f w)
    (h : wpStill Tryz.prog ops w Q rest (a.put o.dst (.agg (setA f)))) : wpStill Tryz.prog ops w Q (o :: rest) a := by
  refine wpStill_step (fun K hK => ?_)
  rw [if_pos (hgd _)]
  unfold Oper.still execOp
  simp only [ho, hx, Instr.loadAt, Instr.sureAddr, Sem.run_bind, Sem.run_pure, Result.andThen_ok, run_loadVar_row w g 100 _ (setA f) (0, 0) _ hg undQ rfl (by rw [setA_size]; exact (zero_of_info infoQ).2)]
  exact ⟨rfl, hK _ h⟩
/-- A set and more bytes. -/
def plusF (f : Nat → Bool) (lo k j : Nat) : Bool := f j || spanF lo k j
theorem plusF_none (f : Nat → Bool) (lo : Nat) : setA (plusF f lo lo) = setA f := setA_congr fun i _ => by
  unfold plusF spanF
  by_cases h : lo ≤ i
  · rw [decide_eq_false (show ¬ i < lo by omega), Bool.and_false, Bool.or_false]
  · rw [decide_eq_false h, Bool.false_and, Bool.or_false]
theorem plusF_less (f : Nat → Bool) (lo k : Nat) (h : k ≤ lo) : setA (plusF f lo k) = setA f := setA_congr fun i _ => by
  unfold plusF spanF
  by_cases h2 : lo ≤ i
  · rw [decide_eq_false (show ¬ i < k by omega), Bool.and_false, Bool.or_false]
  · rw [decide_eq_false h2, Bool.false_and, Bool.or_false]
theorem plusF_succ (f : Nat → Bool) (lo k : Nat) (h : lo ≤ k) : setA (fun j => if j = k then true else plusF f lo k j) = setA (plusF f lo (k + 1)) := setA_congr fun i _ => by
  unfold plusF spanF
  by_cases e : i = k
  · subst e
    rw [if_pos rfl, decide_eq_true h, decide_eq_true (Nat.lt_succ_self i), Bool.and_true, Bool.or_true]
  · rw [if_neg e, show decide (i < k) = decide (i < k + 1) from decide_eq_decide.2 (by omega)]

set_option maxHeartbeats 4000000 in
set_option maxRecDepth 1000000 in
theorem rwith_any (f : Nat → Bool) (lo hi : Nat) (hlo : lo < 256) (hhi : hi < 256) (w : World) : Calls Tryz.prog 58 #[.agg (setA f), .int .i64 (lo : Int), .int .i64 (hi : Int)] w fun e w' => e = .returned (.agg (setA (fun c => f c || spanF lo (hi + 1) c))) ∧ Below w.heap.size w w' := by
  · have hv := (zero_of_info infoQ).1
    go_enter Tryz.func58, Tryz.ntmps58
    go_wp2
    rw [← setA_false]
    have H0 : Hid (SbQ w.heap.size (plusF f lo lo) ((w.alloc (.cells (setA f) 100)).alloc (.cells (setA (fun _ => false)) 100))) := Lib.hid (((SbQ.new w f).on (al_below _ _) (by simp)).eq (plusF_none _ _).symm)
    have H1 : Hid (SbQ (w.heap.size + 1) (fun _ => false) ((w.alloc (.cells (setA f) 100)).alloc (.cells (setA (fun _ => false)) 100))) := Lib.hid (by have := SbQ.new (w.alloc (.cells (setA f) 100)) (fun _ => false); simpa using this)
    have HB : Hid (Below w.heap.size w ((w.alloc (.cells (setA f) 100)).alloc (.cells (setA (fun _ => false)) 100))) := Lib.hid ((al_below w _).trans ((al_below _ _).mono (by simp)))
    go_loopw [7] (fun i wr => ∃ (k : Nat), i = .int .i64 k ∧ lo ≤ k ∧ k ≤ 256 ∧ (lo ≤ hi → k ≤ hi + 1) ∧ (hi < lo → k = lo) ∧ Hid (SbQ w.heap.size (plusF f lo k) wr) ∧ Hid (SbQ (w.heap.size + 1) (fun _ => false) wr) ∧ Hid (Below w.heap.size w wr)) (fun i _ => 256 - (intOf i).toNat)
    case atStart => exact ⟨lo, rfl, Nat.le_refl _, by omega, by omega, fun _ => rfl, H0, H1, HB⟩
    case round =>
      obtain ⟨k, rfl, hk1, hk2, hk3, hk4, HS, HR, HBL⟩ := hrel
      clear H0 H1 HB
      by_cases hle : k ≤ hi
      · have z1 : decide ((k : Int) ≤ (hi : Int)) = true := decide_eq_true (by omega)
        have y1 : decide (k ≤ hi) = true := decide_eq_true hle
        have i1 : (k : Int) < 256 := by omega
        have i2 : (0 : Int) ≤ (k : Int) := by omega
        have hw1 : IntKind.i64.wrap ((k : Int) + 1) = (k : Int) + 1 := IntWalk.i64_in _ (by omega)
        have hc : wr.cell? ⟨w.heap.size, k, none⟩ = some (.bool (plusF f lo k k)) := HS.out.cell (by omega)
        have hf := HS.out.fz k
        have hp : plusF f lo k k = f k := by unfold plusF spanF; rw [decide_eq_false (Nat.lt_irrefl k), Bool.and_false, Bool.or_false]
        rw [hp] at hc
        clear hp
        go_wp2
        refine ⟨⟨k + 1, by go_num, by omega, by omega, by omega, by omega, Lib.hid ((HS.out.set k true).eq (plusF_succ f lo k hk1)), Lib.hid (HR.out.other k _ (by simp)), Lib.hid (HBL.out.setCell (p := ⟨w.heap.size, k, none⟩) (Nat.le_refl _) _)⟩, by simp [intOf]; omega⟩
      · have z1 : decide ((k : Int) ≤ (hi : Int)) = false := decide_eq_false (by omega)
        have y1 : decide (k ≤ hi) = false := decide_eq_false hle
        have hks : setA (plusF f lo k) = setA (fun c => f c || spanF lo (hi + 1) c) := by
          rcases Nat.lt_or_ge hi lo with h | h
          · rw [hk4 h, plusF_none, show (fun c => f c || spanF lo (hi + 1) c) = plusF f lo (hi + 1) from rfl, plusF_less _ _ _ (by omega)]
          · rw [show k = hi + 1 by omega]
            rfl
        have hs := HS.out.eq hks
        obtain ⟨w4, e4, h4, hb4, e4'⟩ := put_set2 HR.out (fun c => f c || spanF lo (hi + 1) c)
        have HB4 := Lib.hid (HBL.out.trans (hb4.mono (Nat.le_succ _)))
        clear hb4 HS hks
        go_wp2_with fail
        refine wp_load_setQ _ rfl w.heap.size rfl _ _ hs ?_
        go_wp2_with fail
        exact ret_setQ rfl h4 rfl rfl ⟨rfl, HB4.out⟩

theorem runTo_up (f : Nat → Bool) (k m : Nat) (hk : k < m) (hm : m < 256) (h : runTo f (m - 1) = runTo f k) (hf : f m = true) : runTo f (m + 1 - 1) = runTo f k := by
  have e := runTo_on f (m - 1) (by omega) (by rw [show m - 1 + 1 = m by omega]; exact hf)
  rw [show m - 1 + 1 = m by omega] at e
  rw [show m + 1 - 1 = m by omega, e, h]
set_option maxHeartbeats 8000000 in
set_option maxRecDepth 1000000 in
theorem rranges_any (f : Nat → Bool) (w : World) : Calls Tryz.prog 59 #[.agg (setA f)] w fun e w' => ∃ v, e = .returned v ∧ OR w.heap.size 56 2 RgR w' (rngs f 0) v ∧ Below w.heap.size w w' := by
  go_enter Tryz.func59, Tryz.ntmps59
  go_wp2
  go_loopw [3, 4, 5] (fun l i fr wr => ∃ (k : Nat) (rs : List (UInt8 × UInt8)) (v : Value), v = l ∧ i = .int .i64 k ∧ k ≤ 256 ∧ Hid (rs ++ rngs f k = rngs f 0) ∧ rs.length ≤ k ∧ Hid (OR (w.heap.size + 1) 56 2 RgR wr rs v) ∧ Hid (wr.heap[w.heap.size]? = some (.cells (setA f) 100 (0, 0))) ∧ Hid (Below w.heap.size w wr)) (fun _ i _ _ => 256 - (intOf i).toNat)
  case atStart => exact ⟨0, [], _, rfl, rfl, by omega, Lib.hid rfl, by simp, Lib.hid OR.nil, Lib.hid (heap_alloc_new w _), Lib.hid ((Below.refl _ w).alloc (Nat.le_refl _) _)⟩
  case round =>
    obtain ⟨k, rs, v, rfl, rfl, hk, HR, hrl, HO, HB, HW⟩ := hrel
    by_cases hle : k < 256
    · have z1 : decide ((k : Int) < 256) = true := decide_eq_true (by omega)
      have y1 : decide (k < 256) = true := decide_eq_true hle
      have i1 : (k : Int) < 256 := by omega
      have i2 : (0 : Int) ≤ (k : Int) := by omega
      have hw1 : IntKind.i64.wrap ((k : Int) + 1) = (k : Int) + 1 := IntWalk.i64_in _ (by omega)
      have hc : wr.cell? ⟨w.heap.size, k, none⟩ = some (.bool (f k)) := by
        rw [cell_of_row _ _ _ _ _ _ HB.out]
        exact setA_at f hle
      cases hf : f k with
      | false =>
        rw [hf] at hc
        go_wp2_with fail
        refine ⟨⟨k + 1, rs, v, rfl, by go_num, by omega, Lib.hid (by rw [← rngs_off f k hle hf]; exact HR.out), by omega, HO, HB, HW⟩, by simp [intOf]; omega⟩
      | true =>
        rw [hf] at hc
        have HFK := Lib.hid hf
        clear hf
        go_wp2_with fail
        go_loopw [4] (fun i wx => ∃ m : Nat, i = .int .i64 m ∧ k ≤ m ∧ m ≤ 256 ∧ Hid (m = k ∨ (k < m ∧ runTo f (m - 1) = runTo f k)) ∧ wr = wx) (fun i _ => 256 - (intOf i).toNat)
        case atStart => exact ⟨k, rfl, Nat.le_refl _, by omega, Lib.hid (.inl rfl), rfl⟩
        case round =>
          clear hc
          obtain ⟨m, rfl, hm1, hm2, HM, rfl⟩ := hrel
          by_cases hgo : m < 256 ∧ f m = true
          · have hw2 : IntKind.i64.wrap ((m : Int) + 1) = (m : Int) + 1 := IntWalk.i64_in _ (by omega)
            have x1 : decide ((m : Int) < 256) = true := decide_eq_true (by omega)
            have x2 : (m : Int) < 256 := by omega
            have x3 : (0 : Int) ≤ (m : Int) := by omega
            have hc2 : wr.cell? ⟨w.heap.size, m, none⟩ = some (.bool true) := by
              rw [cell_of_row _ _ _ _ _ _ HB.out, ← hgo.2]
              exact setA_at f hgo.1
            have HN : Hid (m + 1 = k ∨ (k < m + 1 ∧ runTo f (m + 1 - 1) = runTo f k)) := Lib.hid (.inr ⟨by omega, by
              rcases HM.out with rfl | ⟨h1, h2⟩
              · rfl
              · exact runTo_up f k m h1 hgo.1 h2 hgo.2⟩)
            clear hgo HM
            go_wp2_with fail
            refine ⟨⟨m + 1, by go_num, by omega, by omega, HN, trivial⟩, by simp [intOf]; omega⟩
          · have hkm : k < m ∧ runTo f (m - 1) = runTo f k := by
              rcases HM.out with rfl | h
              · exact absurd ⟨hle, HFK.out⟩ hgo
              · exact h
            obtain ⟨m', rfl⟩ : ∃ m', m = m' + 1 := ⟨m - 1, by omega⟩
            have hmr2 : Hid (runTo f k = m') := Lib.hid (hkm.2.symm.trans (by
              rw [show m' + 1 - 1 = m' by omega]
              exact runTo_off f m' fun h => by cases h3 : f (m' + 1) with | false => rfl | true => exact absurd ⟨h, h3⟩ hgo))
            have wx : IntKind.u8.wrap (k : Int) = (k : Int) := IntWalk.u8_in _ (by omega)
            have hm3 : m' < 256 := by omega
            have wy : IntKind.u8.wrap (m' : Int) = (m' : Int) := IntWalk.u8_in _ (by omega)
            have wz : IntKind.i64.wrap (((m' + 1 : Nat) : Int) - 1) = (m' : Int) := by
              rw [show ((m' + 1 : Nat) : Int) - 1 = (m' : Int) by omega]
              exact IntWalk.i64_in _ (by omega)
            have wz' : IntKind.i64.wrap ((m' : Int) + 1 - 1) = (m' : Int) := by
              rw [show (m' : Int) + 1 - 1 = (m' : Int) by omega]
              exact IntWalk.i64_in _ (by omega)
            obtain ⟨i0, hi, hz0, hz1, hz2⟩ := info_parts infoR
            obtain ⟨cs, hown, hpush⟩ := HO.out.cells
            have hBW : w.heap.size + 1 ≤ wr.heap.size := (Array.getElem?_eq_some_iff.1 HB.out).1
            have one2 : ∀ u ∈ [Value.int .u8 (k : Int), .int .u8 (m' : Int)], u.oneCell' = true := by
              intro u hu
              simp only [List.mem_cons, List.not_mem_nil, or_false] at hu
              rcases hu with rfl | rfl <;> rfl
            have hkm1 := hkm.1
            clear HM hkm
            by_cases h1 : m' + 1 < 256
            · have x1 : decide (((m' + 1 : Nat) : Int) < 256) = true := decide_eq_true (by omega)
              have x1' : decide ((m' : Int) + 1 < 256) = true := decide_eq_true (by omega)
              have x2 : (m' : Int) + 1 < 256 := by omega
              have x3 : (0 : Int) ≤ (m' : Int) + 1 := by omega
              have x4 : ((m' : Int) + 1).toNat = m' + 1 := by omega
              have hc2 : wr.cell? ⟨w.heap.size, m' + 1, none⟩ = some (.bool false) := by
                have hff : f (m' + 1) = false := by cases h3 : f (m' + 1) with | false => rfl | true => exact absurd ⟨h1, h3⟩ hgo
                rw [cell_of_row _ _ _ _ _ _ HB.out, ← hff]
                exact setA_at f h1
              clear hgo
              go_wp2_with (at_builtin; refine wpList_append_lies _ rfl _ _ 22 rfl (w.heap.size + 1) 56 i0 (.agg #[.int .u8 0, .int .u8 0]) 2 2 Tryz.underlying22 hi hz0 hz1 hz2 rfl (by decide) _ rs.length cs rfl (hown.alloc _) ⟨wr.heap.size, 0, none⟩ 1 1 [.int .u8 (k : Int), .int .u8 (m' : Int)] rfl rfl (World.news_of_block (heap_alloc_new wr _)) one2 (by omega) (by unfold maxLen; omega) (by omega) (Nat.le_trans hBW (by simp)) _ rfl ?_; intro g6 cap6 w6 hown6 hgr6 hat6 hlt6; have HW6 := Lib.hid (push_below hgr6 hown hBW); have HO6 := Lib.hid (hpush RgR w6 (UInt8.ofNat k, UInt8.ofNat m') _ _ (fun _ _ h => h) rfl (by simp only [RgR]; rw [ofNat8 hle, ofNat8 hm3]) (by omega) hown6); clear hown6 hgr6 hat6 hlt6 hown hpush)
              refine ⟨⟨m' + 1, rs ++ [(UInt8.ofNat k, UInt8.ofNat m')], _, rfl, by go_num, by omega, Lib.hid (by rw [List.append_assoc, List.singleton_append, ← HR.out, rngs_on f k hle HFK.out, hmr2.out]), by simp; omega, HO6, Lib.hid ((HW6.out.block _ (Nat.lt_succ_self _)).trans HB.out), Lib.hid (HW.out.trans (HW6.out.mono (Nat.le_succ _)))⟩, by simp [intOf]; omega⟩
            · have x1 : decide (((m' + 1 : Nat) : Int) < 256) = false := decide_eq_false (by omega)
              have x1' : decide ((m' : Int) + 1 < 256) = false := decide_eq_false (by omega)
              clear hgo
              go_wp2_with (at_builtin; refine wpList_append_lies _ rfl _ _ 22 rfl (w.heap.size + 1) 56 i0 (.agg #[.int .u8 0, .int .u8 0]) 2 2 Tryz.underlying22 hi hz0 hz1 hz2 rfl (by decide) _ rs.length cs rfl (hown.alloc _) ⟨wr.heap.size, 0, none⟩ 1 1 [.int .u8 (k : Int), .int .u8 (m' : Int)] rfl rfl (World.news_of_block (heap_alloc_new wr _)) one2 (by omega) (by unfold maxLen; omega) (by omega) (Nat.le_trans hBW (by simp)) _ rfl ?_; intro g6 cap6 w6 hown6 hgr6 hat6 hlt6; have HW6 := Lib.hid (push_below hgr6 hown hBW); have HO6 := Lib.hid (hpush RgR w6 (UInt8.ofNat k, UInt8.ofNat m') _ _ (fun _ _ h => h) rfl (by simp only [RgR]; rw [ofNat8 hle, ofNat8 hm3]) (by omega) hown6); clear hown6 hgr6 hat6 hlt6 hown hpush)
              refine ⟨⟨m' + 1, rs ++ [(UInt8.ofNat k, UInt8.ofNat m')], _, rfl, by go_num, by omega, Lib.hid (by rw [List.append_assoc, List.singleton_append, ← HR.out, rngs_on f k hle HFK.out, hmr2.out]), by simp; omega, HO6, Lib.hid ((HW6.out.block _ (Nat.lt_succ_self _)).trans HB.out), Lib.hid (HW.out.trans (HW6.out.mono (Nat.le_succ _)))⟩, by simp [intOf]; omega⟩
    · have z1 : decide ((k : Int) < 256) = false := decide_eq_false (by omega)
      have y1 : decide (k < 256) = false := decide_eq_false hle
      go_wp2_with fail
      go_ret
      have hr0 : rngs f k = [] := by rw [rngs, dif_neg hle]
      have := HR.out
      rw [hr0, List.append_nil] at this
      exact ⟨_, rfl, this ▸ (HO.out.own (fun _ _ => rfl) (fun _ _ h => h) _ (Nat.le_succ _)), HW.out⟩

set_option maxHeartbeats 8000000 in
set_option maxRecDepth 1000000 in
theorem bracketed_any (rs : List (UInt8 × UInt8)) (v : Value) (w : World) (h : RgAt w rs v) (hl : rs.length ≤ 256) : Calls Tryz.prog 41 #[v] w fun e w' => e = .returned (.tuple #[.string ⟨(clsS rs).toArray⟩, .bool (clsB rs)]) ∧ Below w.heap.size w w' := by
  have hv := (zero_of_info infoQ).1
  have HIT := Lib.hid (members_any rs v w h hl)
  have HG := Lib.hid h
  obtain ⟨a, c, rfl, hm, hk⟩ := h
  have hle : (itmS rs).length ≤ 1280 := itmS_len hl
  have HK := Lib.hid hk
  clear hk
  go_enter Tryz.func41, Tryz.ntmps41
  go_wp2_with fail
  refine HIT.out.mono ?_
  rintro e w1 ⟨rfl, hb⟩
  have HB1 := Lib.hid hb
  clear hb HIT
  cases hB : itmB rs with
  | true =>
    have HS : Hid (clsS rs = 91 :: (itmS rs ++ [93]) ∧ clsB rs = true) := Lib.hid ⟨by unfold clsS; rw [hB]; rfl, by unfold clsB; rw [hB]; rfl⟩
    obtain ⟨S, hS⟩ : ∃ S, itmS rs = S := ⟨_, rfl⟩
    rw [hS] at HS hle ⊢
    have n1 : ¬ 9223372036854775807 < 1 + S.length := by omega
    have n2 : ¬ 9223372036854775807 < 1 + S.length + 1 := by omega
    clear hB hS
    go_wp2_with fail
    all_goals try (exfalso; omega)
    go_ret2
    exact ⟨by rw [HS.out.1, HS.out.2, show (91 :: (S ++ [93])) = [91] ++ S ++ [93] by simp, ← ba_app, ← ba_app]; rfl, HB1.out⟩
  | false =>
    have HS : Hid (clsS rs = 91 :: 94 :: (itmS (negR rs) ++ [93]) ∧ clsB rs = itmB (negR rs)) := Lib.hid ⟨by unfold clsS; rw [hB]; rfl, by unfold clsB; rw [hB]; rfl⟩
    obtain ⟨S0, hS0⟩ : ∃ S, itmS rs = S := ⟨_, rfl⟩
    rw [hS0]
    clear hB hle hS0
    go_wp2_with fail
    rw [← setA_false]
    obtain ⟨q, hq⟩ : ∃ q, w1.heap.size = q := ⟨_, rfl⟩
    have HQW : Hid (w.heap.size ≤ q) := Lib.hid (hq ▸ HB1.out.size)
    have HS0 : Hid (SbQ q (uniF (rs.take 0)) (w1.alloc (.cells (setA (fun _ => false)) 100))) := Lib.hid (hq ▸ SbQ.new w1 _)
    have HB2 := Lib.hid (HB1.out.alloc HB1.out.size (.cells (setA (fun _ => false)) 100))
    rw [hq]
    clear hq HB1
    go_loopw [7] (fun i wr => ∃ k : Nat, i = .int .i64 k ∧ k ≤ rs.length ∧ Hid (SbQ q (uniF (rs.take k)) wr) ∧ Hid (Below w.heap.size w wr)) (fun i _ => rs.length - (intOf i).toNat)
    case atStart => exact ⟨0, rfl, by omega, HS0, HB2⟩
    case round =>
      obtain ⟨k, rfl, hkl, HSB, HB⟩ := hrel
      clear HS0 HB2
      by_cases hlt : k < rs.length
      · obtain ⟨blk, off, rfl, hbl, c0, c1⟩ := HK.out k hlt
        have e0 := (HB.out.cell (p := ⟨blk, off + k * 2, none⟩) hbl).trans c0
        have e1 := (HB.out.cell (p := ⟨blk, off + k * 2 + 1, none⟩) hbl).trans c1
        have i1 : (k : Int) < (rs.length : Int) := by omega
        have i2 : (0 : Int) ≤ (k : Int) := by omega
        have hw1 : IntKind.i64.wrap ((k : Int) + 1) = (k : Int) + 1 := IntWalk.i64_in _ (by omega)
        have HUN := Lib.hid (uniF_snoc rs k hlt)
        obtain ⟨r, hr⟩ : ∃ r, rs[k] = r := ⟨_, rfl⟩
        rw [hr] at e0 e1 HUN
        obtain ⟨lo, hi⟩ := r
        simp only at e0 e1
        have hlo := UInt8.toNat_lt lo
        have hhi := UInt8.toNat_lt hi
        have hwl : IntKind.i64.wrap (lo.toNat : Int) = (lo.toNat : Int) := IntWalk.i64_in _ (by omega)
        have hwh : IntKind.i64.wrap (hi.toNat : Int) = (hi.toNat : Int) := IntWalk.i64_in _ (by omega)
        clear c0 c1 hr
        obtain ⟨f, hf⟩ : ∃ f, uniF (rs.take k) = f := ⟨_, rfl⟩
        rw [hf] at HSB HUN
        have HWI := Lib.hid fun W => rwith_any f lo.toNat hi.toNat hlo hhi W
        have HSD : Hid (SbQ q f wr.drew) := HSB
        have HBD := Lib.hid HB.out.drew
        have e0' : wr.drew.cell? ⟨blk, off + k * 2, none⟩ = some (.int .u8 (lo.toNat : Int)) := e0
        have e1' : wr.drew.cell? ⟨blk, off + k * 2 + 1, none⟩ = some (.int .u8 (hi.toNat : Int)) := e1
        clear hf
        go_wp2_with fail
        refine wp_region_still_tail 13 (by rfl) (by kernel_rfl) ?_
        simp only [List.take_succ_cons, List.take_zero, List.drop_succ_cons, List.drop_zero]
        refine wps_load_setQ (fun _ => rfl) _ rfl q rfl f HSD.out ?_
        still_step
        still_step
        still_step
        still_step
        still_step
        still_step
        still_step
        still_step
        still_step
        still_step
        still_step
        still_step
        refine wpStill_nil ?_
        change wpList _ _ _ _ _ wr.drew
        clear e0 e1 e0' e1'
        go_wp2_with fail
        refine (HWI.out _).mono ?_
        rintro e w3 ⟨rfl, hb⟩
        have HS3 := Lib.hid (HSD.out.on hb HSD.out.lt)
        have HB3 := Lib.hid (HBD.out.trans (hb.mono HBD.out.size))
        obtain ⟨w4, e4, h4, hb4, e4'⟩ := put_set2 HS3.out (fun c => f c || spanF lo.toNat (hi.toNat + 1) c)
        have HB4 := Lib.hid (HB3.out.trans (hb4.mono HQW.out))
        clear hb hb4
        go_wp2_with fail
        exact ⟨⟨k + 1, by go_num, by omega, Lib.hid (by rw [HUN.out]; exact h4), HB4⟩, by simp [intOf]; omega⟩
      · have z1 : decide ((k : Int) < (rs.length : Int)) = false := decide_eq_false (by omega)
        have y1 : decide (k < rs.length) = false := decide_eq_false hlt
        have hk2 : rs.take k = rs := List.take_of_length_le (by omega)
        have HSF : Hid (SbQ q (mixF (fun c => !uniF rs c) (uniF rs) 0) wr) := Lib.hid (by have := HSB.out; rw [hk2] at this; exact this.eq (mixF_none _ _).symm)
        clear hk2 HSB
        go_wp2_with fail
        go_loopw [8] (fun i wx => ∃ m : Nat, i = .int .i64 m ∧ m ≤ 256 ∧ Hid (SbQ q (mixF (fun c => !uniF rs c) (uniF rs) m) wx) ∧ Hid (Below w.heap.size w wx)) (fun i _ => 256 - (intOf i).toNat)
        case atStart => exact ⟨0, rfl, by omega, HSF, HB⟩
        case round =>
          clear HSF HB
          obtain ⟨m, rfl, hm2, HS2, HB⟩ := hrel
          by_cases hgo : m < 256
          · have x1 : decide ((m : Int) < 256) = true := decide_eq_true (by omega)
            have x2 : (m : Int) < 256 := by omega
            have x3 : (0 : Int) ≤ (m : Int) := by omega
            have hw2 : IntKind.i64.wrap ((m : Int) + 1) = (m : Int) + 1 := IntWalk.i64_in _ (by omega)
            have hc : wr.cell? ⟨q, m, none⟩ = some (.bool (uniF rs m)) := by
              rw [HS2.out.cell hgo]
              simp [mixF]
            have hf := HS2.out.fz m
            go_wp2_with fail
            refine ⟨⟨m + 1, by go_num, by omega, Lib.hid ((HS2.out.set m (!uniF rs m)).eq (mixF_succ (fun c => !uniF rs c) (uniF rs) m)), Lib.hid (HB.out.setCell (p := ⟨q, m, none⟩) HQW.out _)⟩, by simp [intOf]; omega⟩
          · have x1 : decide ((m : Int) < 256) = false := decide_eq_false (by omega)
            obtain rfl : m = 256 := by omega
            have hld := HS2.out.eq (mixF_all (fun c => !uniF rs c) (uniF rs))
            go_wp2_with (refine wpl_load_setQ rfl _ rfl q rfl _ hld ?_)
            refine (rranges_any _ _).mono ?_
            rintro e w3 ⟨v2, rfl, hor, hb⟩
            have HB3 := Lib.hid (HB.out.trans (hb.mono HB.out.size))
            have hrg := or_rg hor
            clear hb hor hld
            go_wp2_with fail
            refine (members_any (negR rs) _ _ hrg (rngs_len _)).mono ?_
            rintro e w4 ⟨rfl, hb⟩
            have HB4 := Lib.hid (HB3.out.trans (hb.mono HB3.out.size))
            have hle : (itmS (negR rs)).length ≤ 1280 := itmS_len (rngs_len _)
            obtain ⟨S, hS⟩ : ∃ S, itmS (negR rs) = S := ⟨_, rfl⟩
            rw [hS] at HS hle ⊢
            have n1 : ¬ 9223372036854775807 < 2 + S.length := by omega
            have n2 : ¬ 9223372036854775807 < 2 + S.length + 1 := by omega
            clear hb hS hrg
            go_wp2_with fail
            all_goals try (exfalso; omega)
            go_ret2
            exact ⟨by rw [HS.out.1, HS.out.2, show (91 :: 94 :: (S ++ [93])) = [91, 94] ++ S ++ [93] by simp, ← ba_app, ← ba_app]; rfl, HB4.out⟩
end Go.Proofs.YtphbkompnddflaaGreatDoor
/-
  Writing of the reference: nodes, Format.
-/
namespace Go.Proofs.YtphbkompnddflaaGreatDoor
open Go.RowKit Go.Sort

/-- What source says of a node. -/
def SrC (t : NT) : Prop := ∀ (v : Value) (w : World), NAt w t v → Calls Tryz.prog 26 #[v] w fun e w' => ∃ L : List UInt8, e = .returned (.tuple #[.string ⟨L.toArray⟩, .bool (!wrgL t)]) ∧ (wrgL t = false → L = nodL t) ∧ L.length + 3 ≤ 1600 * cntN t ∧ Below w.heap.size w w'
theorem cnts_take (ks : List NT) : ∀ k, k < ks.length → ∀ h : k < ks.length, cnts (ks.take (k + 1)) = cnts (ks.take k) + cntN ks[k] := by
  induction ks with
  | nil => intro k h; simp at h
  | cons x ks ih =>
    intro k _ h
    cases k with
    | zero => simp [cnts]
    | succ k =>
      have := ih k (by simpa using h) (by simpa using h)
      simp only [List.take_succ_cons, List.getElem_cons_succ, cnts]
      omega
theorem wrgs_bad (ks : List NT) (k : Nat) (h : k < ks.length) (hb : wrgL ks[k] = true) : wrgs ks = true := by
  induction ks generalizing k with
  | nil => simp at h
  | cons x ks ih =>
    rw [wrgs]
    cases k with
    | zero => rw [show wrgL x = true from hb]; rfl
    | succ k => rw [ih k (by simpa using h) hb, Bool.or_true]
theorem wrgs_good (ks : List NT) (h : ∀ k (h : k < ks.length), wrgL ks[k] = false) : wrgs ks = false := by
  induction ks with
  | nil => rfl
  | cons x ks ih =>
    rw [wrgs, show wrgL x = false from h 0 (by simp), ih (fun k hk => h (k + 1) (by simpa using hk))]
    rfl
theorem insL_step (ops : List Int) (ks : List NT) (k : Nat) (h : k < ks.length) : insL ops (ks.take (k + 1)) = insL ops (ks.take k) ++ insK ops ks[k] := by
  rw [Asc.snoc_take ks k h, insL_snoc]
/-- The text of the kids ahead of k, for a sequence or alternatives. -/
def joiL (cc : Bool) (ks : List NT) : List UInt8 := if cc then insL [2, 3] ks else altS ks
def sepL (cc : Bool) : List UInt8 := if cc then [] else [124]
def opsL (cc : Bool) : List Int := if cc then [2, 3] else [3]
theorem joi_step (cc : Bool) (ks : List NT) (k : Nat) (h : k < ks.length) : joiL cc (ks.take (k + 1)) = joiL cc (ks.take k) ++ ((if k = 0 then [] else sepL cc) ++ insK (opsL cc) ks[k]) := by
  cases cc with
  | false => exact altS_step ks k h
  | true =>
    show insL [2, 3] _ = insL [2, 3] _ ++ ((if k = 0 then [] else []) ++ insK [2, 3] ks[k])
    rw [ite_self, List.nil_append]
    exact insL_step [2, 3] ks k h
/-- What joined gives. -/
def JnP (cc : Bool) (ks : List NT) (w : World) (e : Ending) (w' : World) : Prop := ∃ L : List UInt8, e = .returned (.tuple #[.string ⟨L.toArray⟩, .bool (!wrgs ks)]) ∧ (wrgs ks = false → L = joiL cc ks) ∧ L.length ≤ 1600 * cnts ks ∧ Below w.heap.size w w'
theorem nat_op {w : World} {t : NT} {op : Int} {x1 x2 x3 x4 x5 : Value} (h : NAt w t (.agg #[.int .i64 op, x1, x2, x3, x4, x5])) : opOf t = op := by
  obtain ⟨op', rs, nm, kids, mn, mx, ra, rc, a, c, rfl, hv, _⟩ := h.open
  injection hv with hv
  simp only [Array.mk.injEq, List.cons.injEq] at hv
  obtain ⟨h1, _⟩ := hv
  injection h1 with _ h1
  exact h1.symm
theorem cnts_le (ks : List NT) : ∀ k, cnts (ks.take k) ≤ cnts ks := by
  induction ks with
  | nil => intro k; simp
  | cons x ks ih =>
    intro k
    cases k with
    | zero => simp [cnts]
    | succ k =>
      have := ih k
      simp only [List.take_succ_cons, cnts]
      omega
set_option maxHeartbeats 8000000 in
set_option maxRecDepth 1000000 in
theorem joined_cat (ks : List NT) (hs : ∀ k (h : k < ks.length), SrC ks[k]) (hc : cnts ks ≤ 400) (a : Option Addr) (c : Nat) (w : World)
    (hk : ∀ i (h : i < ks.length), ∃ blk off op' ra' rn' rc' nm' a' n' c' mn' mx', a = some ⟨blk, off, none⟩ ∧ blk < w.heap.size ∧ w.cell? ⟨blk, off + i * 6, none⟩ = some (.int .i64 op') ∧ w.cell? ⟨blk, off + i * 6 + 1, none⟩ = some (.slice ra' rn' rc') ∧
      w.cell? ⟨blk, off + i * 6 + 2, none⟩ = some (.string ⟨(nm' : List UInt8).toArray⟩) ∧ w.cell? ⟨blk, off + i * 6 + 3, none⟩ = some (.slice a' n' c') ∧ w.cell? ⟨blk, off + i * 6 + 4, none⟩ = some (.int .i64 mn') ∧ w.cell? ⟨blk, off + i * 6 + 5, none⟩ = some (.int .i64 mx') ∧
      NAt w ks[i] (.agg #[.int .i64 op', .slice ra' rn' rc', .string ⟨nm'.toArray⟩, .slice a' n' c', .int .i64 mn', .int .i64 mx']))
    (hml : ks.length ≤ 9223372036854775807) : Calls Tryz.prog 42 #[.slice a ks.length c, .string ⟨#[]⟩, .bool true] w (JnP true ks w) := by
  have HK := Lib.hid hk
  have HS := Lib.hid hs
  clear hk hs
  go_enter Tryz.func42, Tryz.ntmps42
  go_wp2_with fail
  go_loopw [8, 9] (fun s i wr => ∃ (k : Nat) (acc : List UInt8), i = .int .i64 k ∧ s = .string ⟨acc.toArray⟩ ∧ k ≤ ks.length ∧ Hid (acc = joiL true (ks.take k)) ∧ Hid (∀ j (h : j < ks.length), j < k → wrgL ks[j] = false) ∧ Hid (acc.length ≤ 1600 * cnts (ks.take k)) ∧ Hid (Below w.heap.size w wr)) (fun _ i _ => ks.length - (intOf i).toNat)
  case atStart => exact ⟨0, [], rfl, rfl, by omega, Lib.hid (by first | rfl | (unfold joiL; simp [insL_nil, altS_nil])), Lib.hid (fun j _ h => by omega), Lib.hid (by simp), Lib.hid (Below.refl _ _)⟩
  case round =>
    obtain ⟨k, acc, rfl, rfl, hkl, HA, HW, HL, HB⟩ := hrel
    by_cases hlt : k < ks.length
    · obtain ⟨blk, off, op', ra', rn', rc', nm', a', n', c', mn', mx', rfl, hl, c0, c1, c2, c3, c4, c5, ht⟩ := HK.out k hlt
      have e0 := (HB.out.cell (p := ⟨blk, off + k * 6, none⟩) hl).trans c0
      have e1 := (HB.out.cell (p := ⟨blk, off + k * 6 + 1, none⟩) hl).trans c1
      have e2 := (HB.out.cell (p := ⟨blk, off + k * 6 + 2, none⟩) hl).trans c2
      have e3 := (HB.out.cell (p := ⟨blk, off + k * 6 + 3, none⟩) hl).trans c3
      have e4 := (HB.out.cell (p := ⟨blk, off + k * 6 + 4, none⟩) hl).trans c4
      have e5 := (HB.out.cell (p := ⟨blk, off + k * 6 + 5, none⟩) hl).trans c5
      have i1 : (k : Int) < (ks.length : Int) := by omega
      have i2 : (0 : Int) ≤ (k : Int) := by omega
      have hw1 : IntKind.i64.wrap ((k : Int) + 1) = (k : Int) + 1 := IntWalk.i64_in _ (by omega)
      have HI := Lib.hid (HS.out k hlt _ wr (NAt.later HB.out _ _ ht))
      have HOP := Lib.hid (nat_op ht)
      have HCT := Lib.hid (cnts_take ks k hlt hlt)
      have HST := Lib.hid (joi_step true ks k hlt)
      have HBAD := Lib.hid (wrgs_bad ks k hlt)
      have HCM := Lib.hid (cnts_le ks (k + 1))
      obtain ⟨t, ht'⟩ : ∃ t, ks[k] = t := ⟨_, rfl⟩
      rw [ht'] at HI HOP HCT HST HBAD
      have HWK : Hid (wrgL t = false → ∀ j (h : j < ks.length), j < k + 1 → wrgL ks[j] = false) := Lib.hid (fun h0 j h hj => by
        by_cases e : j = k
        · subst e; rw [ht']; exact h0
        · exact HW.out j h (by omega))
      clear c0 c1 c2 c3 c4 c5 ht ht'
      go_wp2_with fail
      refine HI.out.mono ?_
      rintro e w2 ⟨L, rfl, hL, hLl, hb⟩
      have HLn : Hid (wrgL t = false → L = nodL t) := Lib.hid hL
      have HLL : Hid (acc.length + L.length + 3 ≤ 1600 * cnts (ks.take (k + 1)) ∧ 1600 * cnts (ks.take (k + 1)) ≤ 640000) := Lib.hid (by
        have h1 := HCT.out
        have h2 := HL.out
        have h3 := HCM.out
        omega)
      have HB2 := Lib.hid (HB.out.trans (hb.mono HB.out.size))
      have x0 := (hb.cell (p := ⟨blk, off + k * 6, none⟩) (Nat.lt_of_lt_of_le hl HB.out.size)).trans e0
      clear hb hL hLl e0 e1 e2 e3 e4 e5 HI HCT HL HCM
      obtain ⟨b, hb⟩ : ∃ b, wrgL t = b := ⟨_, rfl⟩
      rw [hb] at HLn HBAD HWK ⊢
      clear hb
      cases b with
      | true =>
        have HF : Hid (wrgs ks = true) := Lib.hid (HBAD.out rfl)
        go_wp2_with fail
        go_ret2
        exact ⟨[], by rw [HF.out]; rfl, (fun h => by rw [HF.out] at h; cases h), by simp, HB2.out⟩
      | false =>
        have HT := HLn.out rfl
        subst HT
        have HW2 := Lib.hid (HWK.out rfl)
        have HKT : Hid (insK (opsL true) t = if op' ∈ opsL true then 40 :: (nodL t ++ [41]) else nodL t) := Lib.hid (by unfold insK; rw [HOP.out])
        obtain ⟨T, hT⟩ : ∃ T, nodL t = T := ⟨_, rfl⟩
        rw [hT] at HKT HLL ⊢
        have hll := HLL.out
        have m1 : ¬ 9223372036854775807 < 1 + T.length := by omega
        have m2 : ¬ 9223372036854775807 < 1 + T.length + 1 := by omega
        have m3 : ¬ 9223372036854775807 < acc.length + T.length := by omega
        have m4 : ¬ 9223372036854775807 < acc.length + (1 + T.length + 1) := by omega
        have m5 : ¬ 9223372036854775807 < acc.length + 1 := by omega
        have m6 : ¬ 9223372036854775807 < acc.length + 0 := by omega
        have m7 : ¬ 9223372036854775807 < acc.length := by omega
        have m8 : ¬ 9223372036854775807 < acc.length + 1 + T.length := by omega
        have m9 : ¬ 9223372036854775807 < acc.length + 1 + (1 + T.length + 1) := by omega
        have lw := Nat.lt_of_lt_of_le hl HB2.out.size
        clear hT HLn HBAD HWK hll
        by_cases h3 : op' = 3
        · subst h3
          by_cases hk0 : k = 0
          · have zk : decide ((0 : Int) < (k : Int)) = false := decide_eq_false (by omega)
            have yk : decide (0 < k) = false := decide_eq_false (by omega)
            have HX : Hid (joiL true (ks.take (k + 1)) = acc ++ ([40] ++ T ++ [41])) := Lib.hid (by rw [HST.out, HKT.out, ← HA.out, if_pos (show (3 : Int) ∈ opsL true by simp [opsL])]; simp [hk0])
            clear HKT HST hk0
            go_wp2_with fail
            all_goals try (exfalso; omega)
            refine ⟨⟨k + 1, acc ++ ([40] ++ T ++ [41]), by go_num, ?_, by omega, Lib.hid HX.out.symm, HW2, Lib.hid (by have := HLL.out; simp; omega), HB2⟩, by simp [intOf]; omega⟩
            first | (simp only [← ba_app]; done) | (simp only [← ba_app]; rfl) | (simp [ba_app]; done)
          · have zk : decide ((0 : Int) < (k : Int)) = true := decide_eq_true (by omega)
            have yk : decide (0 < k) = true := decide_eq_true (by omega)
            have HX : Hid (joiL true (ks.take (k + 1)) = acc ++ ([40] ++ T ++ [41])) := Lib.hid (by rw [HST.out, HKT.out, ← HA.out, if_pos (show (3 : Int) ∈ opsL true by simp [opsL])]; simp [sepL])
            clear HKT HST hk0
            go_wp2_with fail
            all_goals try (exfalso; omega)
            refine ⟨⟨k + 1, acc ++ ([40] ++ T ++ [41]), by go_num, ?_, by omega, Lib.hid HX.out.symm, HW2, Lib.hid (by have := HLL.out; simp; omega), HB2⟩, by simp [intOf]; omega⟩
            first | (simp only [← ba_app]; done) | (simp only [← ba_app]; rfl) | (simp [ba_app]; done)
        · have z3 : ((op' : Int) == 3) = false := by rw [beq_eq_false_iff_ne]; exact h3
          by_cases h2 : op' = 2
          · subst h2
            by_cases hk0 : k = 0
            · have zk : decide ((0 : Int) < (k : Int)) = false := decide_eq_false (by omega)
              have yk : decide (0 < k) = false := decide_eq_false (by omega)
              have HX : Hid (joiL true (ks.take (k + 1)) = acc ++ ([40] ++ T ++ [41])) := Lib.hid (by rw [HST.out, HKT.out, ← HA.out, if_pos (show (2 : Int) ∈ opsL true by simp [opsL])]; simp [hk0])
              clear HKT HST hk0
              go_wp2_with fail
              all_goals try (exfalso; omega)
              refine ⟨⟨k + 1, acc ++ ([40] ++ T ++ [41]), by go_num, ?_, by omega, Lib.hid HX.out.symm, HW2, Lib.hid (by have := HLL.out; simp; omega), HB2⟩, by simp [intOf]; omega⟩
              first | (simp only [← ba_app]; done) | (simp only [← ba_app]; rfl) | (simp [ba_app]; done)
            · have zk : decide ((0 : Int) < (k : Int)) = true := decide_eq_true (by omega)
              have yk : decide (0 < k) = true := decide_eq_true (by omega)
              have HX : Hid (joiL true (ks.take (k + 1)) = acc ++ ([40] ++ T ++ [41])) := Lib.hid (by rw [HST.out, HKT.out, ← HA.out, if_pos (show (2 : Int) ∈ opsL true by simp [opsL])]; simp [sepL])
              clear HKT HST hk0
              go_wp2_with fail
              all_goals try (exfalso; omega)
              refine ⟨⟨k + 1, acc ++ ([40] ++ T ++ [41]), by go_num, ?_, by omega, Lib.hid HX.out.symm, HW2, Lib.hid (by have := HLL.out; simp; omega), HB2⟩, by simp [intOf]; omega⟩
              first | (simp only [← ba_app]; done) | (simp only [← ba_app]; rfl) | (simp [ba_app]; done)
          · have z2 : ((op' : Int) == 2) = false := by rw [beq_eq_false_iff_ne]; exact h2
            have hno : ¬ op' ∈ opsL true := by simp [opsL, h2, h3]
            by_cases hk0 : k = 0
            · have zk : decide ((0 : Int) < (k : Int)) = false := decide_eq_false (by omega)
              have yk : decide (0 < k) = false := decide_eq_false (by omega)
              have HX : Hid (joiL true (ks.take (k + 1)) = acc ++ T) := Lib.hid (by rw [HST.out, HKT.out, ← HA.out, if_neg hno]; simp [hk0])
              clear HKT HST hk0
              go_wp2_with fail
              all_goals try (exfalso; omega)
              refine ⟨⟨k + 1, acc ++ T, by go_num, ?_, by omega, Lib.hid HX.out.symm, HW2, Lib.hid (by have := HLL.out; simp; omega), HB2⟩, by simp [intOf]; omega⟩
              first | (simp only [← ba_app]; done) | (simp only [← ba_app]; rfl) | (simp [ba_app]; done)
            · have zk : decide ((0 : Int) < (k : Int)) = true := decide_eq_true (by omega)
              have yk : decide (0 < k) = true := decide_eq_true (by omega)
              have HX : Hid (joiL true (ks.take (k + 1)) = acc ++ T) := Lib.hid (by rw [HST.out, HKT.out, ← HA.out, if_neg hno]; simp [sepL])
              clear HKT HST hk0
              go_wp2_with fail
              all_goals try (exfalso; omega)
              refine ⟨⟨k + 1, acc ++ T, by go_num, ?_, by omega, Lib.hid HX.out.symm, HW2, Lib.hid (by have := HLL.out; simp; omega), HB2⟩, by simp [intOf]; omega⟩
              first | (simp only [← ba_app]; done) | (simp only [← ba_app]; rfl) | (simp [ba_app]; done)
    · have z1 : decide ((k : Int) < (ks.length : Int)) = false := decide_eq_false (by omega)
      have y1 : decide (k < ks.length) = false := decide_eq_false hlt
      have hk2 : ks.take k = ks := List.take_of_length_le (by omega)
      have HF : Hid (wrgs ks = false) := Lib.hid (wrgs_good ks fun j h => HW.out j h (by omega))
      rw [hk2] at HA HL
      clear hk2
      go_wp2_with fail
      go_ret2
      exact ⟨acc, by rw [HF.out]; rfl, fun _ => HA.out, HL.out, HB.out⟩
set_option maxHeartbeats 8000000 in
set_option maxRecDepth 1000000 in
theorem joined_alt (ks : List NT) (hs : ∀ k (h : k < ks.length), SrC ks[k]) (hc : cnts ks ≤ 400) (a : Option Addr) (c : Nat) (w : World)
    (hk : ∀ i (h : i < ks.length), ∃ blk off op' ra' rn' rc' nm' a' n' c' mn' mx', a = some ⟨blk, off, none⟩ ∧ blk < w.heap.size ∧ w.cell? ⟨blk, off + i * 6, none⟩ = some (.int .i64 op') ∧ w.cell? ⟨blk, off + i * 6 + 1, none⟩ = some (.slice ra' rn' rc') ∧
      w.cell? ⟨blk, off + i * 6 + 2, none⟩ = some (.string ⟨(nm' : List UInt8).toArray⟩) ∧ w.cell? ⟨blk, off + i * 6 + 3, none⟩ = some (.slice a' n' c') ∧ w.cell? ⟨blk, off + i * 6 + 4, none⟩ = some (.int .i64 mn') ∧ w.cell? ⟨blk, off + i * 6 + 5, none⟩ = some (.int .i64 mx') ∧
      NAt w ks[i] (.agg #[.int .i64 op', .slice ra' rn' rc', .string ⟨nm'.toArray⟩, .slice a' n' c', .int .i64 mn', .int .i64 mx']))
    (hml : ks.length ≤ 9223372036854775807) : Calls Tryz.prog 42 #[.slice a ks.length c, .string ⟨#[124]⟩, .bool false] w (JnP false ks w) := by
  have HK := Lib.hid hk
  have HS := Lib.hid hs
  clear hk hs
  go_enter Tryz.func42, Tryz.ntmps42
  go_wp2_with fail
  go_loopw [8, 9] (fun s i wr => ∃ (k : Nat) (acc : List UInt8), i = .int .i64 k ∧ s = .string ⟨acc.toArray⟩ ∧ k ≤ ks.length ∧ Hid (acc = joiL false (ks.take k)) ∧ Hid (∀ j (h : j < ks.length), j < k → wrgL ks[j] = false) ∧ Hid (acc.length ≤ 1600 * cnts (ks.take k)) ∧ Hid (Below w.heap.size w wr)) (fun _ i _ => ks.length - (intOf i).toNat)
  case atStart => exact ⟨0, [], rfl, rfl, by omega, Lib.hid (by first | rfl | (unfold joiL; simp [insL_nil, altS_nil])), Lib.hid (fun j _ h => by omega), Lib.hid (by simp), Lib.hid (Below.refl _ _)⟩
  case round =>
    obtain ⟨k, acc, rfl, rfl, hkl, HA, HW, HL, HB⟩ := hrel
    by_cases hlt : k < ks.length
    · obtain ⟨blk, off, op', ra', rn', rc', nm', a', n', c', mn', mx', rfl, hl, c0, c1, c2, c3, c4, c5, ht⟩ := HK.out k hlt
      have e0 := (HB.out.cell (p := ⟨blk, off + k * 6, none⟩) hl).trans c0
      have e1 := (HB.out.cell (p := ⟨blk, off + k * 6 + 1, none⟩) hl).trans c1
      have e2 := (HB.out.cell (p := ⟨blk, off + k * 6 + 2, none⟩) hl).trans c2
      have e3 := (HB.out.cell (p := ⟨blk, off + k * 6 + 3, none⟩) hl).trans c3
      have e4 := (HB.out.cell (p := ⟨blk, off + k * 6 + 4, none⟩) hl).trans c4
      have e5 := (HB.out.cell (p := ⟨blk, off + k * 6 + 5, none⟩) hl).trans c5
      have i1 : (k : Int) < (ks.length : Int) := by omega
      have i2 : (0 : Int) ≤ (k : Int) := by omega
      have hw1 : IntKind.i64.wrap ((k : Int) + 1) = (k : Int) + 1 := IntWalk.i64_in _ (by omega)
      have HI := Lib.hid (HS.out k hlt _ wr (NAt.later HB.out _ _ ht))
      have HOP := Lib.hid (nat_op ht)
      have HCT := Lib.hid (cnts_take ks k hlt hlt)
      have HST := Lib.hid (joi_step false ks k hlt)
      have HBAD := Lib.hid (wrgs_bad ks k hlt)
      have HCM := Lib.hid (cnts_le ks (k + 1))
      obtain ⟨t, ht'⟩ : ∃ t, ks[k] = t := ⟨_, rfl⟩
      rw [ht'] at HI HOP HCT HST HBAD
      have HWK : Hid (wrgL t = false → ∀ j (h : j < ks.length), j < k + 1 → wrgL ks[j] = false) := Lib.hid (fun h0 j h hj => by
        by_cases e : j = k
        · subst e; rw [ht']; exact h0
        · exact HW.out j h (by omega))
      clear c0 c1 c2 c3 c4 c5 ht ht'
      go_wp2_with fail
      refine HI.out.mono ?_
      rintro e w2 ⟨L, rfl, hL, hLl, hb⟩
      have HLn : Hid (wrgL t = false → L = nodL t) := Lib.hid hL
      have HLL : Hid (acc.length + L.length + 3 ≤ 1600 * cnts (ks.take (k + 1)) ∧ 1600 * cnts (ks.take (k + 1)) ≤ 640000) := Lib.hid (by
        have h1 := HCT.out
        have h2 := HL.out
        have h3 := HCM.out
        omega)
      have HB2 := Lib.hid (HB.out.trans (hb.mono HB.out.size))
      have x0 := (hb.cell (p := ⟨blk, off + k * 6, none⟩) (Nat.lt_of_lt_of_le hl HB.out.size)).trans e0
      clear hb hL hLl e0 e1 e2 e3 e4 e5 HI HCT HL HCM
      obtain ⟨b, hb⟩ : ∃ b, wrgL t = b := ⟨_, rfl⟩
      rw [hb] at HLn HBAD HWK ⊢
      clear hb
      cases b with
      | true =>
        have HF : Hid (wrgs ks = true) := Lib.hid (HBAD.out rfl)
        go_wp2_with fail
        go_ret2
        exact ⟨[], by rw [HF.out]; rfl, (fun h => by rw [HF.out] at h; cases h), by simp, HB2.out⟩
      | false =>
        have HT := HLn.out rfl
        subst HT
        have HW2 := Lib.hid (HWK.out rfl)
        have HKT : Hid (insK (opsL false) t = if op' ∈ opsL false then 40 :: (nodL t ++ [41]) else nodL t) := Lib.hid (by unfold insK; rw [HOP.out])
        obtain ⟨T, hT⟩ : ∃ T, nodL t = T := ⟨_, rfl⟩
        rw [hT] at HKT HLL ⊢
        have hll := HLL.out
        have m1 : ¬ 9223372036854775807 < 1 + T.length := by omega
        have m2 : ¬ 9223372036854775807 < 1 + T.length + 1 := by omega
        have m3 : ¬ 9223372036854775807 < acc.length + T.length := by omega
        have m4 : ¬ 9223372036854775807 < acc.length + (1 + T.length + 1) := by omega
        have m5 : ¬ 9223372036854775807 < acc.length + 1 := by omega
        have m6 : ¬ 9223372036854775807 < acc.length + 0 := by omega
        have m7 : ¬ 9223372036854775807 < acc.length := by omega
        have m8 : ¬ 9223372036854775807 < acc.length + 1 + T.length := by omega
        have m9 : ¬ 9223372036854775807 < acc.length + 1 + (1 + T.length + 1) := by omega
        have lw := Nat.lt_of_lt_of_le hl HB2.out.size
        clear hT HLn HBAD HWK hll
        by_cases h3 : op' = 3
        · subst h3
          by_cases hk0 : k = 0
          · have zk : decide ((0 : Int) < (k : Int)) = false := decide_eq_false (by omega)
            have yk : decide (0 < k) = false := decide_eq_false (by omega)
            have HX : Hid (joiL false (ks.take (k + 1)) = acc ++ ([40] ++ T ++ [41])) := Lib.hid (by rw [HST.out, HKT.out, ← HA.out, if_pos (show (3 : Int) ∈ opsL false by simp [opsL])]; simp [hk0])
            clear HKT HST hk0
            go_wp2_with fail
            all_goals try (exfalso; omega)
            refine ⟨⟨k + 1, acc ++ ([40] ++ T ++ [41]), by go_num, ?_, by omega, Lib.hid HX.out.symm, HW2, Lib.hid (by have := HLL.out; simp; omega), HB2⟩, by simp [intOf]; omega⟩
            first | (simp only [← ba_app]; done) | (simp only [← ba_app]; rfl) | (simp [ba_app]; done)
          · have zk : decide ((0 : Int) < (k : Int)) = true := decide_eq_true (by omega)
            have yk : decide (0 < k) = true := decide_eq_true (by omega)
            have HX : Hid (joiL false (ks.take (k + 1)) = (acc ++ [124]) ++ ([40] ++ T ++ [41])) := Lib.hid (by rw [HST.out, HKT.out, ← HA.out, if_pos (show (3 : Int) ∈ opsL false by simp [opsL])]; simp [sepL, hk0])
            clear HKT HST hk0
            go_wp2_with fail
            all_goals try (exfalso; omega)
            refine ⟨⟨k + 1, (acc ++ [124]) ++ ([40] ++ T ++ [41]), by go_num, ?_, by omega, Lib.hid HX.out.symm, HW2, Lib.hid (by have := HLL.out; simp; omega), HB2⟩, by simp [intOf]; omega⟩
            first | (simp only [← ba_app]; done) | (simp only [← ba_app]; rfl) | (simp [ba_app]; done)
        · have z3 : ((op' : Int) == 3) = false := by rw [beq_eq_false_iff_ne]; exact h3
          have hno : ¬ op' ∈ opsL false := by simp [opsL, h3]
          by_cases hk0 : k = 0
          · have zk : decide ((0 : Int) < (k : Int)) = false := decide_eq_false (by omega)
            have yk : decide (0 < k) = false := decide_eq_false (by omega)
            have HX : Hid (joiL false (ks.take (k + 1)) = acc ++ T) := Lib.hid (by rw [HST.out, HKT.out, ← HA.out, if_neg hno]; simp [hk0])
            clear HKT HST hk0
            go_wp2_with fail
            all_goals try (exfalso; omega)
            refine ⟨⟨k + 1, acc ++ T, by go_num, ?_, by omega, Lib.hid HX.out.symm, HW2, Lib.hid (by have := HLL.out; simp; omega), HB2⟩, by simp [intOf]; omega⟩
            first | (simp only [← ba_app]; done) | (simp only [← ba_app]; rfl) | (simp [ba_app]; done)
          · have zk : decide ((0 : Int) < (k : Int)) = true := decide_eq_true (by omega)
            have yk : decide (0 < k) = true := decide_eq_true (by omega)
            have HX : Hid (joiL false (ks.take (k + 1)) = (acc ++ [124]) ++ T) := Lib.hid (by rw [HST.out, HKT.out, ← HA.out, if_neg hno]; simp [sepL, hk0])
            clear HKT HST hk0
            go_wp2_with fail
            all_goals try (exfalso; omega)
            refine ⟨⟨k + 1, (acc ++ [124]) ++ T, by go_num, ?_, by omega, Lib.hid HX.out.symm, HW2, Lib.hid (by have := HLL.out; simp; omega), HB2⟩, by simp [intOf]; omega⟩
            first | (simp only [← ba_app]; done) | (simp only [← ba_app]; rfl) | (simp [ba_app]; done)
    · have z1 : decide ((k : Int) < (ks.length : Int)) = false := decide_eq_false (by omega)
      have y1 : decide (k < ks.length) = false := decide_eq_false hlt
      have hk2 : ks.take k = ks := List.take_of_length_le (by omega)
      have HF : Hid (wrgs ks = false) := Lib.hid (wrgs_good ks fun j h => HW.out j h (by omega))
      rw [hk2] at HA HL
      clear hk2
      go_wp2_with fail
      go_ret2
      exact ⟨acc, by rw [HF.out]; rfl, fun _ => HA.out, HL.out, HB.out⟩
theorem kids_later {w w' : World} {kids : List NT} {a : Option Addr} (hb : Below w.heap.size w w') (hk : ∀ i (h : i < kids.length), ∃ blk off op' ra' rn' rc' nm' a' n' c' mn' mx', a = some ⟨blk, off, none⟩ ∧ blk < w.heap.size ∧ w.cell? ⟨blk, off + i * 6, none⟩ = some (.int .i64 op') ∧ w.cell? ⟨blk, off + i * 6 + 1, none⟩ = some (.slice ra' rn' rc') ∧
      w.cell? ⟨blk, off + i * 6 + 2, none⟩ = some (.string ⟨(nm' : List UInt8).toArray⟩) ∧ w.cell? ⟨blk, off + i * 6 + 3, none⟩ = some (.slice a' n' c') ∧ w.cell? ⟨blk, off + i * 6 + 4, none⟩ = some (.int .i64 mn') ∧ w.cell? ⟨blk, off + i * 6 + 5, none⟩ = some (.int .i64 mx') ∧
      NAt w kids[i] (.agg #[.int .i64 op', .slice ra' rn' rc', .string ⟨nm'.toArray⟩, .slice a' n' c', .int .i64 mn', .int .i64 mx'])) :
    ∀ i (h : i < kids.length), ∃ blk off op' ra' rn' rc' nm' a' n' c' mn' mx', a = some ⟨blk, off, none⟩ ∧ blk < w'.heap.size ∧ w'.cell? ⟨blk, off + i * 6, none⟩ = some (.int .i64 op') ∧ w'.cell? ⟨blk, off + i * 6 + 1, none⟩ = some (.slice ra' rn' rc') ∧
      w'.cell? ⟨blk, off + i * 6 + 2, none⟩ = some (.string ⟨(nm' : List UInt8).toArray⟩) ∧ w'.cell? ⟨blk, off + i * 6 + 3, none⟩ = some (.slice a' n' c') ∧ w'.cell? ⟨blk, off + i * 6 + 4, none⟩ = some (.int .i64 mn') ∧ w'.cell? ⟨blk, off + i * 6 + 5, none⟩ = some (.int .i64 mx') ∧
      NAt w' kids[i] (.agg #[.int .i64 op', .slice ra' rn' rc', .string ⟨nm'.toArray⟩, .slice a' n' c', .int .i64 mn', .int .i64 mx']) := by
  intro i hi
  obtain ⟨blk, off, op', ra', rn', rc', nm', a', n', c', mn', mx', e1, hl, c0, c1, c2, c3, c4, c5, ht⟩ := hk i hi
  exact ⟨blk, off, op', ra', rn', rc', nm', a', n', c', mn', mx', e1, Nat.lt_of_lt_of_le hl hb.size, (hb.cell (p := ⟨blk, off + i * 6, none⟩) hl).trans c0, (hb.cell (p := ⟨blk, off + i * 6 + 1, none⟩) hl).trans c1, (hb.cell (p := ⟨blk, off + i * 6 + 2, none⟩) hl).trans c2, (hb.cell (p := ⟨blk, off + i * 6 + 3, none⟩) hl).trans c3, (hb.cell (p := ⟨blk, off + i * 6 + 4, none⟩) hl).trans c4, (hb.cell (p := ⟨blk, off + i * 6 + 5, none⟩) hl).trans c5, NAt.later hb _ _ ht⟩
set_option maxHeartbeats 8000000 in
set_option maxRecDepth 1000000 in
theorem src_empty (rs : List (UInt8 × UInt8)) (nm : List UInt8) (kids : List NT) (mn mx : Int) (hkd : kids = []) : SrC (.node 0 rs nm kids mn mx) := by
  intro v w h
  have HN := Lib.hid h
  have HE : Hid (nodL (.node 0 rs nm kids mn mx) = [40, 41] ∧ wrgL (.node 0 rs nm kids mn mx) = false) := Lib.hid ⟨by rw [nodL]; rfl, by rw [wrgL, hkd, wrgs_nil]; rfl⟩
  have HC : Hid (1 ≤ cntN (.node 0 rs nm kids mn mx)) := Lib.hid (by rw [cntN]; omega)
  clear hkd
  obtain ⟨op0, rs0, nm0, kids0, mn0, mx0, ra, rc, a, cp, ht, rfl, hrg, ⟨hkl, hnl⟩, hkids⟩ := h.open
  injection ht with e1 e2 e3 e4 e5 e6
  subst e1 e2 e3 e4 e5 e6
  have HBX := Lib.hid (NBx.new w 0 ra rs.length rc nm a kids.length cp mn mx)
  have HB0 := Lib.hid (al_below w (.cells #[.int .i64 0, .slice ra rs.length rc, .string ⟨nm.toArray⟩, .slice a kids.length cp, .int .i64 mn, .int .i64 mx] 25))
  have HRG := Lib.hid hrg
  have HKD := Lib.hid hkids
  obtain ⟨b0, b1, b2, b3, b4, b5⟩ := HBX.out.cells
  clear hrg hkids h
  go_enter Tryz.func26, Tryz.ntmps26
  go_wp2_with fail
  go_ret2
  exact ⟨[40, 41], by rw [HE.out.2]; rfl, fun _ => HE.out.1.symm, by have := HC.out; simp only [List.length_cons, List.length_nil]; omega, HB0.out⟩
set_option maxHeartbeats 8000000 in
set_option maxRecDepth 1000000 in
theorem src_beg (rs : List (UInt8 × UInt8)) (nm : List UInt8) (kids : List NT) (mn mx : Int) (hkd : kids = []) : SrC (.node 6 rs nm kids mn mx) := by
  intro v w h
  have HN := Lib.hid h
  have HE : Hid (nodL (.node 6 rs nm kids mn mx) = [94] ∧ wrgL (.node 6 rs nm kids mn mx) = false) := Lib.hid ⟨by rw [nodL]; rfl, by rw [wrgL, hkd, wrgs_nil]; rfl⟩
  have HC : Hid (1 ≤ cntN (.node 6 rs nm kids mn mx)) := Lib.hid (by rw [cntN]; omega)
  clear hkd
  obtain ⟨op0, rs0, nm0, kids0, mn0, mx0, ra, rc, a, cp, ht, rfl, hrg, ⟨hkl, hnl⟩, hkids⟩ := h.open
  injection ht with e1 e2 e3 e4 e5 e6
  subst e1 e2 e3 e4 e5 e6
  have HBX := Lib.hid (NBx.new w 6 ra rs.length rc nm a kids.length cp mn mx)
  have HB0 := Lib.hid (al_below w (.cells #[.int .i64 6, .slice ra rs.length rc, .string ⟨nm.toArray⟩, .slice a kids.length cp, .int .i64 mn, .int .i64 mx] 25))
  have HRG := Lib.hid hrg
  have HKD := Lib.hid hkids
  obtain ⟨b0, b1, b2, b3, b4, b5⟩ := HBX.out.cells
  clear hrg hkids h
  go_enter Tryz.func26, Tryz.ntmps26
  go_wp2_with fail
  go_ret2
  exact ⟨[94], by rw [HE.out.2]; rfl, fun _ => HE.out.1.symm, by have := HC.out; simp only [List.length_cons, List.length_nil]; omega, HB0.out⟩
set_option maxHeartbeats 8000000 in
set_option maxRecDepth 1000000 in
theorem src_end (rs : List (UInt8 × UInt8)) (nm : List UInt8) (kids : List NT) (mn mx : Int) (hkd : kids = []) : SrC (.node 7 rs nm kids mn mx) := by
  intro v w h
  have HN := Lib.hid h
  have HE : Hid (nodL (.node 7 rs nm kids mn mx) = [36] ∧ wrgL (.node 7 rs nm kids mn mx) = false) := Lib.hid ⟨by rw [nodL]; rfl, by rw [wrgL, hkd, wrgs_nil]; rfl⟩
  have HC : Hid (1 ≤ cntN (.node 7 rs nm kids mn mx)) := Lib.hid (by rw [cntN]; omega)
  clear hkd
  obtain ⟨op0, rs0, nm0, kids0, mn0, mx0, ra, rc, a, cp, ht, rfl, hrg, ⟨hkl, hnl⟩, hkids⟩ := h.open
  injection ht with e1 e2 e3 e4 e5 e6
  subst e1 e2 e3 e4 e5 e6
  have HBX := Lib.hid (NBx.new w 7 ra rs.length rc nm a kids.length cp mn mx)
  have HB0 := Lib.hid (al_below w (.cells #[.int .i64 7, .slice ra rs.length rc, .string ⟨nm.toArray⟩, .slice a kids.length cp, .int .i64 mn, .int .i64 mx] 25))
  have HRG := Lib.hid hrg
  have HKD := Lib.hid hkids
  obtain ⟨b0, b1, b2, b3, b4, b5⟩ := HBX.out.cells
  clear hrg hkids h
  go_enter Tryz.func26, Tryz.ntmps26
  go_wp2_with fail
  go_ret2
  exact ⟨[36], by rw [HE.out.2]; rfl, fun _ => HE.out.1.symm, by have := HC.out; simp only [List.length_cons, List.length_nil]; omega, HB0.out⟩
set_option maxHeartbeats 8000000 in
set_option maxRecDepth 1000000 in
theorem src_class (rs : List (UInt8 × UInt8)) (nm : List UInt8) (kids : List NT) (mn mx : Int) (hrl : rs.length ≤ 256) : SrC (.node 1 rs nm kids mn mx) := by
  intro v w h
  have HN := Lib.hid h
  have HE : Hid (nodL (.node 1 rs nm kids mn mx) = clsS rs ∧ wrgL (.node 1 rs nm kids mn mx) = !clsB rs) := Lib.hid ⟨by rw [nodL]; rfl, by rw [wrgL]; rfl⟩
  have HC : Hid (1 ≤ cntN (.node 1 rs nm kids mn mx)) := Lib.hid (by rw [cntN]; omega)
  have HCL := Lib.hid (clsS_len hrl)
  obtain ⟨op0, rs0, nm0, kids0, mn0, mx0, ra, rc, a, cp, ht, rfl, hrg, ⟨hkl, hnl⟩, hkids⟩ := h.open
  injection ht with e1 e2 e3 e4 e5 e6
  subst e1 e2 e3 e4 e5 e6
  have HBX := Lib.hid (NBx.new w 1 ra rs.length rc nm a kids.length cp mn mx)
  have HB0 := Lib.hid (al_below w (.cells #[.int .i64 1, .slice ra rs.length rc, .string ⟨nm.toArray⟩, .slice a kids.length cp, .int .i64 mn, .int .i64 mx] 25))
  have HRG := Lib.hid hrg
  have HKD := Lib.hid hkids
  obtain ⟨b0, b1, b2, b3, b4, b5⟩ := HBX.out.cells
  clear hrg hkids h
  go_enter Tryz.func26, Tryz.ntmps26
  have HBR := Lib.hid (bracketed_any rs _ _ (HRG.out.later HB0.out) hrl)
  go_wp2_with fail
  refine HBR.out.mono ?_
  rintro e w2 ⟨rfl, hb⟩
  have HB2 := Lib.hid (HB0.out.trans (hb.mono HB0.out.size))
  clear hb
  go_wp2_with fail
  go_ret2
  exact ⟨clsS rs, by rw [HE.out.2, Bool.not_not]; try rfl, fun _ => HE.out.1.symm, by have := HC.out; have := HCL.out; omega, HB2.out⟩
set_option maxHeartbeats 8000000 in
set_option maxRecDepth 1000000 in
theorem src_cat (rs : List (UInt8 × UInt8)) (nm : List UInt8) (kids : List NT) (mn mx : Int) (hs : ∀ k (h : k < kids.length), SrC kids[k]) (hcn : cntN (.node 2 rs nm kids mn mx) ≤ 400) : SrC (.node 2 rs nm kids mn mx) := by
  intro v w h
  have HN := Lib.hid h
  have HE : Hid (nodL (.node 2 rs nm kids mn mx) = joiL true kids ∧ wrgL (.node 2 rs nm kids mn mx) = wrgs kids) := Lib.hid ⟨by rw [nodL]; rfl, by rw [wrgL]; rfl⟩
  have HC : Hid (cntN (.node 2 rs nm kids mn mx) = 1 + cnts kids) := Lib.hid (by rw [cntN])
  have hcs : cnts kids ≤ 400 := by rw [cntN] at hcn; omega
  obtain ⟨op0, rs0, nm0, kids0, mn0, mx0, ra, rc, a, cp, ht, rfl, hrg, ⟨hkl, hnl⟩, hkids⟩ := h.open
  injection ht with e1 e2 e3 e4 e5 e6
  subst e1 e2 e3 e4 e5 e6
  have HBX := Lib.hid (NBx.new w 2 ra rs.length rc nm a kids.length cp mn mx)
  have HB0 := Lib.hid (al_below w (.cells #[.int .i64 2, .slice ra rs.length rc, .string ⟨nm.toArray⟩, .slice a kids.length cp, .int .i64 mn, .int .i64 mx] 25))
  have HRG := Lib.hid hrg
  have HKD := Lib.hid hkids
  obtain ⟨b0, b1, b2, b3, b4, b5⟩ := HBX.out.cells
  clear hrg hkids h
  go_enter Tryz.func26, Tryz.ntmps26
  have HJ := Lib.hid (joined_cat kids hs hcs a cp _ (kids_later HB0.out HKD.out) hkl)
  go_wp2_with fail
  refine HJ.out.mono ?_
  rintro e w2 ⟨L, rfl, hL, hl, hb⟩
  have HB2 := Lib.hid (HB0.out.trans (hb.mono HB0.out.size))
  have HL := Lib.hid hL
  have HLL := Lib.hid hl
  clear hb hL hl
  go_wp2_with fail
  go_ret2
  exact ⟨L, by rw [HE.out.2]; try rfl, fun h => by rw [HE.out.1]; exact HL.out (HE.out.2.symm.trans h), by have := HC.out; have := HLL.out; omega, HB2.out⟩
set_option maxHeartbeats 8000000 in
set_option maxRecDepth 1000000 in
theorem src_cho (rs : List (UInt8 × UInt8)) (nm : List UInt8) (kids : List NT) (mn mx : Int) (hs : ∀ k (h : k < kids.length), SrC kids[k]) (hcn : cntN (.node 3 rs nm kids mn mx) ≤ 400) : SrC (.node 3 rs nm kids mn mx) := by
  intro v w h
  have HN := Lib.hid h
  have HE : Hid (nodL (.node 3 rs nm kids mn mx) = joiL false kids ∧ wrgL (.node 3 rs nm kids mn mx) = wrgs kids) := Lib.hid ⟨by rw [nodL]; rfl, by rw [wrgL]; rfl⟩
  have HC : Hid (cntN (.node 3 rs nm kids mn mx) = 1 + cnts kids) := Lib.hid (by rw [cntN])
  have hcs : cnts kids ≤ 400 := by rw [cntN] at hcn; omega
  obtain ⟨op0, rs0, nm0, kids0, mn0, mx0, ra, rc, a, cp, ht, rfl, hrg, ⟨hkl, hnl⟩, hkids⟩ := h.open
  injection ht with e1 e2 e3 e4 e5 e6
  subst e1 e2 e3 e4 e5 e6
  have HBX := Lib.hid (NBx.new w 3 ra rs.length rc nm a kids.length cp mn mx)
  have HB0 := Lib.hid (al_below w (.cells #[.int .i64 3, .slice ra rs.length rc, .string ⟨nm.toArray⟩, .slice a kids.length cp, .int .i64 mn, .int .i64 mx] 25))
  have HRG := Lib.hid hrg
  have HKD := Lib.hid hkids
  obtain ⟨b0, b1, b2, b3, b4, b5⟩ := HBX.out.cells
  clear hrg hkids h
  go_enter Tryz.func26, Tryz.ntmps26
  have HJ := Lib.hid (joined_alt kids hs hcs a cp _ (kids_later HB0.out HKD.out) hkl)
  go_wp2_with fail
  refine HJ.out.mono ?_
  rintro e w2 ⟨L, rfl, hL, hl, hb⟩
  have HB2 := Lib.hid (HB0.out.trans (hb.mono HB0.out.size))
  have HL := Lib.hid hL
  have HLL := Lib.hid hl
  clear hb hL hl
  go_wp2_with fail
  go_ret2
  exact ⟨L, by rw [HE.out.2]; try rfl, fun h => by rw [HE.out.1]; exact HL.out (HE.out.2.symm.trans h), by have := HC.out; have := HLL.out; omega, HB2.out⟩
set_option maxHeartbeats 8000000 in
set_option maxRecDepth 1000000 in
theorem src_cap (rs : List (UInt8 × UInt8)) (nm : List UInt8) (t : NT) (mn mx : Int) (hs : SrC t) (hnm : nm.length ≤ 32) (hcn : cntN t ≤ 400) : SrC (.node 5 rs nm [t] mn mx) := by
  intro v w h
  have HSR := Lib.hid hs
  have HE : Hid (nodL (.node 5 rs nm [t] mn mx) = 40 :: (nm ++ (58 :: (nodL t ++ [41]))) ∧ wrgL (.node 5 rs nm [t] mn mx) = wrgL t) := Lib.hid ⟨(show nodL (.node 5 rs nm [t] mn mx) = 40 :: (nm ++ (58 :: (insL [] [t] ++ [41]))) by rw [nodL]; rfl).trans (by rw [insL_cons, insL_nil, List.append_nil]; simp [insK]), by rw [wrgL, wrgs, wrgs]; simp⟩
  have HC : Hid (cntN (.node 5 rs nm [t] mn mx) = 1 + cntN t) := Lib.hid (by rw [cntN, cnts, cnts, Nat.add_zero])
  obtain ⟨op0, rs0, nm0, kids0, mn0, mx0, ra, rc, a, cp, ht, rfl, hrg, ⟨hkl, hnl⟩, hkids⟩ := h.open
  injection ht with e1 e2 e3 e4 e5 e6
  subst e1 e2 e3 e4 e5 e6
  have HBX := Lib.hid (NBx.new w 5 ra rs.length rc nm a 1 cp mn mx)
  have HB0 : Hid (Below w.heap.size w (w.alloc (.cells #[.int .i64 5, .slice ra rs.length rc, .string ⟨nm.toArray⟩, .slice a 1 cp, .int .i64 mn, .int .i64 mx] 25))) := Lib.hid (al_below w (.cells #[.int .i64 5, .slice ra rs.length rc, .string ⟨nm.toArray⟩, .slice a 1 cp, .int .i64 mn, .int .i64 mx] 25))
  obtain ⟨blk, off, op', ra', rn', rc', nm', a', n', c', mn', mx', rfl, hl, c0, c1, c2, c3, c4, c5, ht⟩ := hkids 0 (by simp)
  have ht : NAt w t _ := ht
  have HOP := Lib.hid (nat_op ht)
  rw [show off + 0 * 6 = off by omega] at c0 c1 c2 c3 c4 c5
  have HKT := Lib.hid (NAt.later HB0.out _ _ ht)
  have x0 := (HB0.out.cell (p := ⟨blk, off, none⟩) hl).trans c0
  have x1 := (HB0.out.cell (p := ⟨blk, off + 1, none⟩) hl).trans c1
  have x2 := (HB0.out.cell (p := ⟨blk, off + 2, none⟩) hl).trans c2
  have x3 := (HB0.out.cell (p := ⟨blk, off + 3, none⟩) hl).trans c3
  have x4 := (HB0.out.cell (p := ⟨blk, off + 4, none⟩) hl).trans c4
  have x5 := (HB0.out.cell (p := ⟨blk, off + 5, none⟩) hl).trans c5
  have HLT : Hid (blk < w.heap.size) := Lib.hid hl
  have lw := Nat.lt_of_lt_of_le hl HB0.out.size
  obtain ⟨b0, b1, b2, b3, b4, b5⟩ := HBX.out.cells
  clear c0 c1 c2 c3 c4 c5 ht hkids h hrg hkl hs
  go_enter Tryz.func26, Tryz.ntmps26
  go_wp2_with fail
  refine (HSR.out _ _ HKT.out).mono ?_
  rintro e w2 ⟨L, rfl, hL, hll, hb⟩
  have HB2 := Lib.hid (HB0.out.trans (hb.mono HB0.out.size))
  have HBX2 := Lib.hid (HBX.out.on hb)
  have X0 := (hb.cell (p := ⟨blk, off, none⟩) lw).trans x0
  have lw2 := Nat.lt_of_lt_of_le lw hb.size
  have HL := Lib.hid hL
  have HLL := Lib.hid hll
  clear hb hL b0 b1 b2 b3 b4 b5 x0 x1 x2 x3 x4 x5
  obtain ⟨b0, b1, b2, b3, b4, b5⟩ := HBX2.out.cells
  have m1 : ¬ 9223372036854775807 < 1 + nm.length := by omega
  have m2 : ¬ 9223372036854775807 < 1 + nm.length + 1 := by omega
  have m3 : ¬ 9223372036854775807 < 1 + nm.length + 1 + L.length := by omega
  have m4 : ¬ 9223372036854775807 < 1 + nm.length + 1 + L.length + 1 := by omega
  go_wp2_with fail
  all_goals try (exfalso; omega)
  go_ret2
  refine ⟨[40] ++ nm ++ [58] ++ L ++ [41], ?_, fun h => ?_, ?_, HB2.out⟩
  · rw [HE.out.2, ← ba_app, ← ba_app, ← ba_app, ← ba_app]
    rfl
  · rw [HE.out.1, HL.out (HE.out.2.symm.trans h)]
    simp
  · have := HC.out
    simp
    omega
set_option maxHeartbeats 8000000 in
set_option maxRecDepth 1000000 in
theorem src_rep (rs : List (UInt8 × UInt8)) (nm : List UInt8) (t : NT) (mn mx : Int) (hs : SrC t) (hb0 : 0 ≤ mn) (hb1 : mn ≤ 40) (hb2 : mx = -1 ∨ (mn ≤ mx ∧ mx ≤ 40)) (hcn : cntN t ≤ 400) : SrC (.node 4 rs nm [t] mn mx) := by
  intro v w h
  have HSR := Lib.hid hs
  have HE : Hid (nodL (.node 4 rs nm [t] mn mx) = (if opOf t ∈ ([2, 3, 4] : List Int) then 40 :: (nodL t ++ [41]) else nodL t) ++ bdsL mn mx ∧ wrgL (.node 4 rs nm [t] mn mx) = wrgL t) := Lib.hid ⟨(show nodL (.node 4 rs nm [t] mn mx) = insL [2, 3, 4] [t] ++ bdsL mn mx by rw [nodL]; rfl).trans (by rw [insL_cons, insL_nil, List.append_nil]; rfl), by rw [wrgL, wrgs, wrgs]; simp⟩
  have HTI := Lib.hid fun W => times_any mn mx hb0 hb1 hb2 W
  have HBL := Lib.hid (bdsL_len mn mx hb0 hb1 hb2)
  clear hb0 hb1 hb2
  have HC : Hid (cntN (.node 4 rs nm [t] mn mx) = 1 + cntN t) := Lib.hid (by rw [cntN, cnts, cnts, Nat.add_zero])
  obtain ⟨op0, rs0, nm0, kids0, mn0, mx0, ra, rc, a, cp, ht, rfl, hrg, ⟨hkl, hnl⟩, hkids⟩ := h.open
  injection ht with e1 e2 e3 e4 e5 e6
  subst e1 e2 e3 e4 e5 e6
  have HBX := Lib.hid (NBx.new w 4 ra rs.length rc nm a 1 cp mn mx)
  have HB0 : Hid (Below w.heap.size w (w.alloc (.cells #[.int .i64 4, .slice ra rs.length rc, .string ⟨nm.toArray⟩, .slice a 1 cp, .int .i64 mn, .int .i64 mx] 25))) := Lib.hid (al_below w (.cells #[.int .i64 4, .slice ra rs.length rc, .string ⟨nm.toArray⟩, .slice a 1 cp, .int .i64 mn, .int .i64 mx] 25))
  obtain ⟨blk, off, op', ra', rn', rc', nm', a', n', c', mn', mx', rfl, hl, c0, c1, c2, c3, c4, c5, ht⟩ := hkids 0 (by simp)
  have ht : NAt w t _ := ht
  have HOP := Lib.hid (nat_op ht)
  rw [show off + 0 * 6 = off by omega] at c0 c1 c2 c3 c4 c5
  have HKT := Lib.hid (NAt.later HB0.out _ _ ht)
  have x0 := (HB0.out.cell (p := ⟨blk, off, none⟩) hl).trans c0
  have x1 := (HB0.out.cell (p := ⟨blk, off + 1, none⟩) hl).trans c1
  have x2 := (HB0.out.cell (p := ⟨blk, off + 2, none⟩) hl).trans c2
  have x3 := (HB0.out.cell (p := ⟨blk, off + 3, none⟩) hl).trans c3
  have x4 := (HB0.out.cell (p := ⟨blk, off + 4, none⟩) hl).trans c4
  have x5 := (HB0.out.cell (p := ⟨blk, off + 5, none⟩) hl).trans c5
  have HLT : Hid (blk < w.heap.size) := Lib.hid hl
  have lw := Nat.lt_of_lt_of_le hl HB0.out.size
  obtain ⟨b0, b1, b2, b3, b4, b5⟩ := HBX.out.cells
  clear c0 c1 c2 c3 c4 c5 ht hkids h hrg hkl hs
  go_enter Tryz.func26, Tryz.ntmps26
  go_wp2_with fail
  refine (HSR.out _ _ HKT.out).mono ?_
  rintro e w2 ⟨L, rfl, hL, hll, hb⟩
  have HB2 := Lib.hid (HB0.out.trans (hb.mono HB0.out.size))
  have HBX2 := Lib.hid (HBX.out.on hb)
  have X0 := (hb.cell (p := ⟨blk, off, none⟩) lw).trans x0
  have lw2 := Nat.lt_of_lt_of_le lw hb.size
  have HL := Lib.hid hL
  have HLL := Lib.hid hll
  clear hb hL b0 b1 b2 b3 b4 b5 x0 x1 x2 x3 x4 x5
  obtain ⟨b0, b1, b2, b3, b4, b5⟩ := HBX2.out.cells
  have m1 : ¬ 9223372036854775807 < 1 + L.length := by omega
  have m2 : ¬ 9223372036854775807 < 1 + L.length + 1 := by omega
  by_cases h2 : op' = 2
  · subst h2
    have HX : Hid (wrgL t = false → nodL (.node 4 rs nm [t] mn mx) = ([40] ++ L ++ [41]) ++ bdsL mn mx) := Lib.hid (fun h => by rw [HE.out.1, HOP.out, if_pos (show (2 : Int) ∈ ([2, 3, 4] : List Int) by simp), HL.out h]; try simp)
    go_wp2_with fail
    all_goals try (exfalso; omega)
    refine (HTI.out _).mono ?_
    rintro e w3 ⟨rfl, hb⟩
    have HB3 := Lib.hid (HB2.out.trans (hb.mono HB2.out.size))
    clear hb
    obtain ⟨D, hD⟩ : ∃ D, bdsL mn mx = D := ⟨_, rfl⟩
    rw [hD] at HX HBL ⊢
    have hbl := HBL.out
    have m3 : ¬ 9223372036854775807 < (1 + L.length + 1) + D.length := by omega
    clear hD HTI
    go_wp2_with fail
    all_goals try (exfalso; omega)
    go_ret2
    refine ⟨([40] ++ L ++ [41]) ++ D, ?_, fun h => (HX.out (HE.out.2.symm.trans h)).symm, ?_, HB3.out⟩
    · rw [HE.out.2]
      simp only [← ba_app]
      rfl
    · have := HC.out
      simp
      omega
  · have z2 : ((op' : Int) == 2) = false := by rw [beq_eq_false_iff_ne]; exact h2
    by_cases h3 : op' = 3
    · subst h3
      have HX : Hid (wrgL t = false → nodL (.node 4 rs nm [t] mn mx) = ([40] ++ L ++ [41]) ++ bdsL mn mx) := Lib.hid (fun h => by rw [HE.out.1, HOP.out, if_pos (show (3 : Int) ∈ ([2, 3, 4] : List Int) by simp), HL.out h]; try simp)
      go_wp2_with fail
      all_goals try (exfalso; omega)
      refine (HTI.out _).mono ?_
      rintro e w3 ⟨rfl, hb⟩
      have HB3 := Lib.hid (HB2.out.trans (hb.mono HB2.out.size))
      clear hb
      obtain ⟨D, hD⟩ : ∃ D, bdsL mn mx = D := ⟨_, rfl⟩
      rw [hD] at HX HBL ⊢
      have hbl := HBL.out
      have m3 : ¬ 9223372036854775807 < (1 + L.length + 1) + D.length := by omega
      clear hD HTI
      go_wp2_with fail
      all_goals try (exfalso; omega)
      go_ret2
      refine ⟨([40] ++ L ++ [41]) ++ D, ?_, fun h => (HX.out (HE.out.2.symm.trans h)).symm, ?_, HB3.out⟩
      · rw [HE.out.2]
        simp only [← ba_app]
        rfl
      · have := HC.out
        simp
        omega
    · have z3 : ((op' : Int) == 3) = false := by rw [beq_eq_false_iff_ne]; exact h3
      by_cases h4 : op' = 4
      · subst h4
        have HX : Hid (wrgL t = false → nodL (.node 4 rs nm [t] mn mx) = ([40] ++ L ++ [41]) ++ bdsL mn mx) := Lib.hid (fun h => by rw [HE.out.1, HOP.out, if_pos (show (4 : Int) ∈ ([2, 3, 4] : List Int) by simp), HL.out h]; try simp)
        go_wp2_with fail
        all_goals try (exfalso; omega)
        refine (HTI.out _).mono ?_
        rintro e w3 ⟨rfl, hb⟩
        have HB3 := Lib.hid (HB2.out.trans (hb.mono HB2.out.size))
        clear hb
        obtain ⟨D, hD⟩ : ∃ D, bdsL mn mx = D := ⟨_, rfl⟩
        rw [hD] at HX HBL ⊢
        have hbl := HBL.out
        have m3 : ¬ 9223372036854775807 < (1 + L.length + 1) + D.length := by omega
        clear hD HTI
        go_wp2_with fail
        all_goals try (exfalso; omega)
        go_ret2
        refine ⟨([40] ++ L ++ [41]) ++ D, ?_, fun h => (HX.out (HE.out.2.symm.trans h)).symm, ?_, HB3.out⟩
        · rw [HE.out.2]
          simp only [← ba_app]
          rfl
        · have := HC.out
          simp
          omega
      · have z4 : ((op' : Int) == 4) = false := by rw [beq_eq_false_iff_ne]; exact h4
        have hno : ¬ op' ∈ ([2, 3, 4] : List Int) := by simp [h2, h3, h4]
        have HX : Hid (wrgL t = false → nodL (.node 4 rs nm [t] mn mx) = L ++ bdsL mn mx) := Lib.hid (fun h => by rw [HE.out.1, HOP.out, if_neg hno, HL.out h]; try simp)
        go_wp2_with fail
        all_goals try (exfalso; omega)
        refine (HTI.out _).mono ?_
        rintro e w3 ⟨rfl, hb⟩
        have HB3 := Lib.hid (HB2.out.trans (hb.mono HB2.out.size))
        clear hb
        obtain ⟨D, hD⟩ : ∃ D, bdsL mn mx = D := ⟨_, rfl⟩
        rw [hD] at HX HBL ⊢
        have hbl := HBL.out
        have m3 : ¬ 9223372036854775807 < L.length + D.length := by omega
        clear hD HTI
        go_wp2_with fail
        all_goals try (exfalso; omega)
        go_ret2
        refine ⟨L ++ D, ?_, fun h => (HX.out (HE.out.2.symm.trans h)).symm, ?_, HB3.out⟩
        · rw [HE.out.2]
          simp only [← ba_app]
          rfl
        · have := HC.out
          simp
          omega
theorem cnt_kid {kids : List NT} {k : NT} (h : k ∈ kids) : cntN k ≤ cnts kids := by
  induction kids with
  | nil => cases h
  | cons x ks ih =>
    rw [cnts]
    rcases List.mem_cons.1 h with rfl | h
    · omega
    · have := ih h
      omega
theorem source_all (N : Nat) : ∀ t : NT, SizeOf.sizeOf t < N → Good t → cntN t ≤ 400 → SrC t := by
  induction N with
  | zero => intro t h; omega
  | succ N ih =>
    intro t hN hG hC
    obtain ⟨op, rs, nm, kids, mn, mx⟩ := t
    rw [Good] at hG
    obtain ⟨hs, hks⟩ := hG
    have hC' := hC
    rw [cntN] at hC'
    have hk : ∀ k (h : k < kids.length), SrC kids[k] := fun k h => ih kids[k] (by have := List.sizeOf_lt_of_mem (List.getElem_mem h); simp at hN; omega) (goods_at hks _ (List.getElem_mem h)) (by have := cnt_kid (List.getElem_mem h); omega)
    obtain ⟨h1, h2, h3⟩ := shE_zero hs
    have one : kids.length = 1 → ∃ t, kids = [t] := fun h => by
      cases kids with
      | nil => simp at h
      | cons x ks => cases ks with
        | nil => exact ⟨x, rfl⟩
        | cons y ks => simp at h
    rcases shp_cases h1 with ⟨rfl, h⟩ | ⟨rfl, h⟩ | ⟨rfl, h⟩ | ⟨rfl, h, hr⟩ | ⟨rfl, h⟩ | ⟨rfl, h⟩ | ⟨rfl, h⟩ | ⟨rfl, h⟩
    · exact src_empty rs nm kids mn mx (List.length_eq_zero_iff.1 h)
    · exact src_beg rs nm kids mn mx (List.length_eq_zero_iff.1 h)
    · exact src_end rs nm kids mn mx (List.length_eq_zero_iff.1 h)
    · exact src_class rs nm kids mn mx (srt_len hr)
    · exact src_cat rs nm kids mn mx hk hC
    · exact src_cho rs nm kids mn mx hk hC
    · obtain ⟨t, rfl⟩ := one h
      have hb := badR_no (h3 rfl)
      exact src_rep rs nm t mn mx (hk 0 (by simp)) hb.1 hb.2.1 hb.2.2 (by rw [cnts, cnts] at hC'; omega)
    · obtain ⟨t, rfl⟩ := one h
      exact src_cap rs nm t mn mx (hk 0 (by simp)) (nm_len (h2 rfl)) (by rw [cnts, cnts] at hC'; omega)
set_option maxHeartbeats 8000000 in
set_option maxRecDepth 1000000 in
theorem rformat_any (t : NT) (v : Value) (w : World) (h : NAt w t v) :
    Calls Tryz.prog 11 #[v] w fun e w' => e = .returned (.tuple #[.string ⟨(fmtM t).1.toArray⟩, .int .i64 ((fmtM t).2 : Int)]) ∧ Below w.heap.size w w' := by
  have HNA := Lib.hid h
  have HCK := Lib.hid fun W u (hu : NAt W t u) => rcheck_any t u W hu
  have HFM := Lib.hid (show fmtM t = if ckE t ≠ 0 then ([], ckE t) else if wrgL t then ([], 1) else if 400 < (nodL t).length then ([], 3) else (nodL t, 0) from rfl)
  have HSR : Hid (ckE t = 0 → SrC t) := Lib.hid (fun hz => source_all _ t (Nat.lt_succ_self _) (ckE_good hz).1 (ckE_good hz).2)
  obtain ⟨op, rs, nm, kids, mn, mx, ra, rc, a, cp, ht, rfl, _⟩ := h.open
  obtain ⟨C, hC⟩ : ∃ C, ckE t = C := ⟨_, rfl⟩
  rw [hC] at HCK HFM HSR
  have HBX := Lib.hid (NBx.new w op ra rs.length rc nm a kids.length cp mn mx)
  have HAL := Lib.hid (al_below w (.cells #[.int .i64 op, .slice ra rs.length rc, .string ⟨nm.toArray⟩, .slice a kids.length cp, .int .i64 mn, .int .i64 mx] 25))
  obtain ⟨b0, b1, b2, b3, b4, b5⟩ := HBX.out.cells
  clear h ht hC
  go_enter Tryz.func11, Tryz.ntmps11
  go_wp2_with fail
  refine (HCK.out _ _ (NAt.later HAL.out _ _ HNA.out)).mono ?_
  rintro e w1 ⟨rfl, hb⟩
  have HB1 := Lib.hid (HAL.out.trans (hb.mono HAL.out.size))
  have HBX1 := Lib.hid (HBX.out.on hb)
  clear hb HBX HAL b0 b1 b2 b3 b4 b5
  by_cases hC0 : C = 0
  · subst hC0
    have HF1 : Hid (fmtM t = if wrgL t then ([], 1) else if 400 < (nodL t).length then ([], 3) else (nodL t, 0)) := Lib.hid (by rw [HFM.out]; rfl)
    obtain ⟨b0, b1, b2, b3, b4, b5⟩ := HBX1.out.cells
    go_wp2_with fail
    refine (HSR.out (by first | rfl | trivial) _ _ (NAt.later HB1.out _ _ HNA.out)).mono ?_
    rintro e w2 ⟨L, rfl, hL, _, hb⟩
    have HB2 := Lib.hid (HB1.out.trans (hb.mono HB1.out.size))
    have HL := Lib.hid hL
    clear hb hL b0 b1 b2 b3 b4 b5
    obtain ⟨B, hB⟩ : ∃ B, wrgL t = B := ⟨_, rfl⟩
    rw [hB] at HF1 HL ⊢
    clear hB
    cases B with
    | true =>
      have HF2 : Hid (fmtM t = ([], 1)) := Lib.hid HF1.out
      go_wp2_with fail
      go_ret2
      exact ⟨by rw [HF2.out]; rfl, HB2.out⟩
    | false =>
      obtain rfl := HL.out rfl
      obtain ⟨L, hL⟩ : ∃ L, nodL t = L := ⟨_, rfl⟩
      rw [hL] at HF1 ⊢
      clear hL HL
      by_cases hlen : 400 < L.length
      · have HF2 : Hid (fmtM t = ([], 3)) := Lib.hid (HF1.out.trans (if_pos hlen))
        have z1 : decide ((400 : Int) < (L.length : Int)) = true := decide_eq_true (by omega)
        have y1 : decide (400 < L.length) = true := decide_eq_true hlen
        go_wp2_with fail
        go_ret2
        exact ⟨by rw [HF2.out]; rfl, HB2.out⟩
      · have HF2 : Hid (fmtM t = (L, 0)) := Lib.hid (HF1.out.trans (if_neg hlen))
        have z1 : decide ((400 : Int) < (L.length : Int)) = false := decide_eq_false (by omega)
        have y1 : decide (400 < L.length) = false := decide_eq_false hlen
        go_wp2_with fail
        go_ret2
        exact ⟨by rw [HF2.out]; rfl, HB2.out⟩
  · have z2 : ((C : Int) == 0) = false := by rw [beq_eq_false_iff_ne]; omega
    have z3 : ((C : Int) != 0) = true := by simp; omega
    have HF1 : Hid (fmtM t = ([], C)) := Lib.hid (by rw [HFM.out, if_pos hC0])
    clear hC0
    go_wp2_with fail
    go_ret2
    exact ⟨by rw [HF1.out]; rfl, HB1.out⟩
end Go.Proofs.YtphbkompnddflaaGreatDoor
/-
  Same of the program, of any two nodes.
-/
namespace Go.Proofs.YtphbkompnddflaaGreatDoor
open Go.RowKit Go.Sort

/-- What a comparison says. -/
def EqB (P : Prop) (w : World) (e : Ending) (w' : World) : Prop := ∃ b : Bool, e = .returned (.bool b) ∧ (b = true ↔ P) ∧ Below w.heap.size w w'
set_option maxRecDepth 1000000 in
set_option maxHeartbeats 8000000 in
theorem eqr_any (rs rs' : List (UInt8 × UInt8)) (v v' : Value) (w : World) (h : RgAt w rs v) (h' : RgAt w rs' v') : Calls Tryz.prog 27 #[v, v'] w (EqB (rs = rs') w) := by
  obtain ⟨ra, rc, rfl, hrl, hrk⟩ := h
  obtain ⟨ra', rc', rfl, hrl', hrk'⟩ := h'
  have HR := Lib.hid hrk
  have HR' := Lib.hid hrk'
  clear hrk hrk'
  by_cases hll : rs.length = rs'.length
  · have HLL := Lib.hid hll
    have e5 : ((rs.length : Int) == (rs'.length : Int)) = true := by rw [beq_iff_eq, hll]
    have f5 : ((rs.length : Int) != (rs'.length : Int)) = false := by simp only [bne, e5, Bool.not_true]
    have g5 : (rs.length == rs'.length) = true := by rw [beq_iff_eq, hll]
    have j5 : (rs.length != rs'.length) = false := by simp only [bne, g5, Bool.not_true]
    clear hll
    go_enter Tryz.func27, Tryz.ntmps27
    go_wp2_with fail
    go_loopw [13] (fun i wr => ∃ k : Nat, i = .int .i64 k ∧ k ≤ rs.length ∧ Hid (Below w.heap.size w wr) ∧ Hid (∀ i (h : i < rs.length) (h' : i < rs'.length), i < k → rs[i] = rs'[i])) (fun i _ => rs.length - (intOf i).toNat)
    case atStart => exact ⟨0, rfl, by omega, Lib.hid (Below.refl _ _), Lib.hid (fun _ _ _ h => by omega)⟩
    case round =>
      obtain ⟨k, rfl, hkl, HB, HEQ⟩ := hrel
      by_cases hlt : k < rs.length
      · have hlt' : k < rs'.length := by have := HLL.out; omega
        obtain ⟨blk, off, rfl, hl, c0, c1⟩ := HR.out k hlt
        obtain ⟨blk', off', rfl, hl', d0, d1⟩ := HR'.out k hlt'
        have e0 := (HB.out.cell (p := ⟨blk, off + k * 2, none⟩) hl).trans c0
        have e1 := (HB.out.cell (p := ⟨blk, off + k * 2 + 1, none⟩) hl).trans c1
        have g0 := (HB.out.cell (p := ⟨blk', off' + k * 2, none⟩) hl').trans d0
        have g1 := (HB.out.cell (p := ⟨blk', off' + k * 2 + 1, none⟩) hl').trans d1
        have i1 : (k : Int) < (rs.length : Int) := by omega
        have i3 : (k : Int) < (rs'.length : Int) := by omega
        have i2 : (0 : Int) ≤ (k : Int) := by omega
        have hw1 : IntKind.i64.wrap ((k : Int) + 1) = (k : Int) + 1 := IntWalk.i64_in _ (by omega)
        clear c0 c1 d0 d1
        by_cases he : rs[k] = rs'[k]
        · have HEQ2 : Hid (∀ i (h : i < rs.length) (h' : i < rs'.length), i < k + 1 → rs[i] = rs'[i]) := Lib.hid (fun i h h' hi => by
            by_cases e : i = k
            · subst e; exact he
            · exact HEQ.out i h h' (by omega))
          rw [← he] at g0 g1
          obtain ⟨lo, hlo⟩ : ∃ lo, rs[k].1.toNat = lo := ⟨_, rfl⟩
          obtain ⟨hi, hhi⟩ : ∃ hi, rs[k].2.toNat = hi := ⟨_, rfl⟩
          rw [hlo] at e0 g0
          rw [hhi] at e1 g1
          clear he hlo hhi
          go_wp2_with fail
          go_quiet (fail)
          go_wp2_with fail
          go_roundw
          case rel => exact ⟨k + 1, by go_num, by omega, Lib.hid (below_drewN HB.out _), HEQ2⟩
          case measure => simp [intOf]; omega
        · have HX : Hid (¬ rs = rs') := Lib.hid (fun h => absurd (by subst h; rfl) he)
          have hne : ¬ (rs[k].1.toNat = rs'[k].1.toNat ∧ rs[k].2.toNat = rs'[k].2.toNat) := fun h => he (Prod.ext (UInt8.toNat_inj.1 h.1) (UInt8.toNat_inj.1 h.2))
          obtain ⟨lo, hlo⟩ : ∃ lo, rs[k].1.toNat = lo := ⟨_, rfl⟩
          obtain ⟨hi, hhi⟩ : ∃ hi, rs[k].2.toNat = hi := ⟨_, rfl⟩
          obtain ⟨lo', hlo'⟩ : ∃ lo, rs'[k].1.toNat = lo := ⟨_, rfl⟩
          obtain ⟨hi', hhi'⟩ : ∃ hi, rs'[k].2.toNat = hi := ⟨_, rfl⟩
          rw [hlo, hhi, hlo', hhi'] at hne
          rw [hlo] at e0
          rw [hhi] at e1
          rw [hlo'] at g0
          rw [hhi'] at g1
          clear he hlo hhi hlo' hhi'
          by_cases hz : lo = lo'
          · subst hz
            have zz : ((hi : Int) == (hi' : Int)) = false := by rw [beq_eq_false_iff_ne]; exact fun h => hne ⟨rfl, by omega⟩
            clear hne
            go_wp2_with fail
            go_quiet (fail)
            go_wp2_with fail
            go_ret
            exact ⟨false, rfl, ⟨fun h => (by cases h), fun h => absurd h HX.out⟩, below_drewN HB.out _⟩
          · have zz : ((lo : Int) == (lo' : Int)) = false := by rw [beq_eq_false_iff_ne]; omega
            clear hne hz
            go_wp2_with fail
            go_quiet (fail)
            go_wp2_with fail
            go_ret
            exact ⟨false, rfl, ⟨fun h => (by cases h), fun h => absurd h HX.out⟩, below_drewN HB.out _⟩
      · obtain rfl : k = rs.length := by omega
        have HX : Hid (rs = rs') := Lib.hid ( List.ext_getElem HLL.out fun i h h' => HEQ.out i h h' h)
        go_wp2_with fail
        go_ret
        exact ⟨true, rfl, ⟨fun _ => HX.out, fun _ => rfl⟩, HB.out⟩
  · have HX : Hid (¬ rs = rs') := Lib.hid (fun h => absurd (by subst h; rfl) hll)
    have e5 : ((rs.length : Int) == (rs'.length : Int)) = false := by rw [beq_eq_false_iff_ne]; omega
    have f5 : ((rs.length : Int) != (rs'.length : Int)) = true := by simp only [bne, e5, Bool.not_false]
    have g5 : (rs.length == rs'.length) = false := by rw [beq_eq_false_iff_ne]; omega
    have j5 : (rs.length != rs'.length) = true := by simp only [bne, g5, Bool.not_false]
    clear hll
    go_enter Tryz.func27, Tryz.ntmps27
    go_wp2_with fail
    all_goals (first | (go_ret; exact ⟨false, rfl, ⟨fun h => (by cases h), fun h => absurd h HX.out⟩, Below.refl _ _⟩) | (exfalso; simp_all; done) | (exfalso; omega))
set_option maxRecDepth 1000000 in
set_option maxHeartbeats 8000000 in
theorem eqf_any (n : Nat) (he : ∀ args w, (callFunc n args).run Tryz.prog w = .ok (.enter n args) w) (kids kids' : List NT) (a bb : Option Addr) (c c' : Nat) (w : World) (hml : kids.length ≤ 9223372036854775807) (hml' : kids'.length ≤ 9223372036854775807)
    (hk : (∀ i (h : i < kids.length), ∃ blk off op' ra' rn' rc' nm' a' n' c' mn' mx', a = some ⟨blk, off, none⟩ ∧ blk < w.heap.size ∧ w.cell? ⟨blk, off + i * 6, none⟩ = some (.int .i64 op') ∧ w.cell? ⟨blk, off + i * 6 + 1, none⟩ = some (.slice ra' rn' rc') ∧ w.cell? ⟨blk, off + i * 6 + 2, none⟩ = some (.string ⟨(nm' : List UInt8).toArray⟩) ∧ w.cell? ⟨blk, off + i * 6 + 3, none⟩ = some (.slice a' n' c') ∧ w.cell? ⟨blk, off + i * 6 + 4, none⟩ = some (.int .i64 mn') ∧ w.cell? ⟨blk, off + i * 6 + 5, none⟩ = some (.int .i64 mx') ∧ NAt w kids[i] (.agg #[.int .i64 op', .slice ra' rn' rc', .string ⟨nm'.toArray⟩, .slice a' n' c', .int .i64 mn', .int .i64 mx'])))
    (hk' : (∀ i (h : i < kids'.length), ∃ blk off op' ra' rn' rc' nm' a' n' c' mn' mx', bb = some ⟨blk, off, none⟩ ∧ blk < w.heap.size ∧ w.cell? ⟨blk, off + i * 6, none⟩ = some (.int .i64 op') ∧ w.cell? ⟨blk, off + i * 6 + 1, none⟩ = some (.slice ra' rn' rc') ∧ w.cell? ⟨blk, off + i * 6 + 2, none⟩ = some (.string ⟨(nm' : List UInt8).toArray⟩) ∧ w.cell? ⟨blk, off + i * 6 + 3, none⟩ = some (.slice a' n' c') ∧ w.cell? ⟨blk, off + i * 6 + 4, none⟩ = some (.int .i64 mn') ∧ w.cell? ⟨blk, off + i * 6 + 5, none⟩ = some (.int .i64 mx') ∧ NAt w kids'[i] (.agg #[.int .i64 op', .slice ra' rn' rc', .string ⟨nm'.toArray⟩, .slice a' n' c', .int .i64 mn', .int .i64 mx'])))
    (hc : ∀ i (hi : i < kids.length) (hi' : i < kids'.length) W u y, NAt W kids[i] u → NAt W kids'[i] y → Calls Tryz.prog n #[u, y] W fun e w' => e = .returned (.bool (sameB kids[i] kids'[i])) ∧ Below W.heap.size W w') :
    Calls Tryz.prog 28 #[.slice a kids.length c, .slice bb kids'.length c', .func (.func n) #[] #[]] w (EqB (kids = kids') w) := by
  have HK := Lib.hid hk
  have HK' := Lib.hid hk'
  have HC := Lib.hid hc
  clear hk hk' hc
  by_cases hll : kids.length = kids'.length
  · have HLL := Lib.hid hll
    have e5 : ((kids.length : Int) == (kids'.length : Int)) = true := by rw [beq_iff_eq, hll]
    have f5 : ((kids.length : Int) != (kids'.length : Int)) = false := by simp only [bne, e5, Bool.not_true]
    have g5 : (kids.length == kids'.length) = true := by rw [beq_iff_eq, hll]
    have j5 : (kids.length != kids'.length) = false := by simp only [bne, g5, Bool.not_true]
    clear hll
    go_enter Tryz.func28, Tryz.ntmps28
    go_wp2_with fail
    go_loopw [17] (fun i wr => ∃ k : Nat, i = .int .i64 k ∧ k ≤ kids.length ∧ Hid (Below w.heap.size w wr) ∧ Hid (∀ i (h : i < kids.length) (h' : i < kids'.length), i < k → kids[i] = kids'[i])) (fun i _ => kids.length - (intOf i).toNat)
    case atStart => exact ⟨0, rfl, by omega, Lib.hid (Below.refl _ _), Lib.hid (fun _ _ _ h => by omega)⟩
    case round =>
      obtain ⟨k, rfl, hkl, HB, HEQ⟩ := hrel
      by_cases hlt : k < kids.length
      · have hlt' : k < kids'.length := by have := HLL.out; omega
        obtain ⟨blk, off, op1, ra1, rn1, rc1, nm1, a1, n1, kc1, mn1, mx1, rfl, hl, c0, c1, c2, c3, c4, c5, ht⟩ := HK.out k hlt
        obtain ⟨blk', off', op2, ra2, rn2, rc2, nm2, a2, n2, kc2, mn2, mx2, rfl, hl', d0, d1, d2, d3, d4, d5, ht'⟩ := HK'.out k hlt'
        have HBA := Lib.hid ((HB.out.alloc HB.out.size (.cells #[.int .i64 op1, .slice ra1 rn1 rc1, .string ⟨nm1.toArray⟩, .slice a1 n1 kc1, .int .i64 mn1, .int .i64 mx1] 25)).alloc (by simp; have := HB.out.size; omega) (.cells #[.int .i64 op2, .slice ra2 rn2 rc2, .string ⟨nm2.toArray⟩, .slice a2 n2 kc2, .int .i64 mn2, .int .i64 mx2] 25))
        have x0 := (HB.out.cell (p := ⟨blk, off + k * 6, none⟩) hl).trans c0
        have x1 := (HB.out.cell (p := ⟨blk, off + k * 6 + 1, none⟩) hl).trans c1
        have x2 := (HB.out.cell (p := ⟨blk, off + k * 6 + 2, none⟩) hl).trans c2
        have x3 := (HB.out.cell (p := ⟨blk, off + k * 6 + 3, none⟩) hl).trans c3
        have x4 := (HB.out.cell (p := ⟨blk, off + k * 6 + 4, none⟩) hl).trans c4
        have x5 := (HB.out.cell (p := ⟨blk, off + k * 6 + 5, none⟩) hl).trans c5
        have y0 := (HB.out.cell (p := ⟨blk', off' + k * 6, none⟩) hl').trans d0
        have y1 := (HB.out.cell (p := ⟨blk', off' + k * 6 + 1, none⟩) hl').trans d1
        have y2 := (HB.out.cell (p := ⟨blk', off' + k * 6 + 2, none⟩) hl').trans d2
        have y3 := (HB.out.cell (p := ⟨blk', off' + k * 6 + 3, none⟩) hl').trans d3
        have y4 := (HB.out.cell (p := ⟨blk', off' + k * 6 + 4, none⟩) hl').trans d4
        have y5 := (HB.out.cell (p := ⟨blk', off' + k * 6 + 5, none⟩) hl').trans d5
        have i1 : (k : Int) < (kids.length : Int) := by omega
        have i3 : (k : Int) < (kids'.length : Int) := by omega
        have i2 : (0 : Int) ≤ (k : Int) := by omega
        have lw1 := Nat.lt_of_lt_of_le hl HB.out.size
        have lw2 := Nat.lt_of_lt_of_le hl' HB.out.size
        have hw1 : IntKind.i64.wrap ((k : Int) + 1) = (k : Int) + 1 := IntWalk.i64_in _ (by omega)
        have HI := Lib.hid (HC.out k hlt hlt' _ _ _ (NAt.later HBA.out _ _ ht) (NAt.later HBA.out _ _ ht'))
        have HS2 : Hid (sameB kids[k] kids'[k] = true ↔ kids[k] = kids'[k]) := Lib.hid (sameB_iff _ _)
        have HY2 : Hid (kids[k] = kids'[k] → ∀ i (h : i < kids.length) (h' : i < kids'.length), i < k + 1 → kids[i] = kids'[i]) := Lib.hid (fun he i h h' hi => by
          by_cases e : i = k
          · subst e; exact he
          · exact HEQ.out i h h' (by omega))
        have HN2 : Hid (¬ kids[k] = kids'[k] → ¬ kids = kids') := Lib.hid (fun he h => absurd (by subst h; rfl) he)
        obtain ⟨S, hS⟩ : ∃ S, sameB kids[k] kids'[k] = S := ⟨_, rfl⟩
        rw [hS] at HI HS2
        clear c0 c1 c2 c3 c4 c5 d0 d1 d2 d3 d4 d5 ht ht' hS
        go_wp2_with fail
        refine HI.out.mono ?_
        rintro e w3 ⟨rfl, hb3⟩
        have HB3 := Lib.hid (HBA.out.trans (hb3.mono HBA.out.size))
        clear hb3 x0 x1 x2 x3 x4 x5 y0 y1 y2 y3 y4 y5
        cases S with
        | true =>
          have HE3 := Lib.hid (HY2.out (HS2.out.1 rfl))
          clear HY2 HN2 HS2
          go_wp2_with fail
          go_roundw
          case rel => exact ⟨k + 1, by go_num, by omega, HB3, HE3⟩
          case measure => simp [intOf]; omega
        | false =>
          have HX := Lib.hid (HN2.out fun h => by have := HS2.out.2 h; cases this)
          clear HY2 HN2 HS2
          go_wp2_with fail
          go_ret
          exact ⟨false, rfl, ⟨fun h => (by cases h), fun h => absurd h HX.out⟩, HB3.out⟩
      · obtain rfl : k = kids.length := by omega
        have HX : Hid (kids = kids') := Lib.hid ( List.ext_getElem HLL.out fun i h h' => HEQ.out i h h' h)
        go_wp2_with fail
        go_ret
        exact ⟨true, rfl, ⟨fun _ => HX.out, fun _ => rfl⟩, HB.out⟩
  · have HX : Hid (¬ kids = kids') := Lib.hid (fun h => absurd (by subst h; rfl) hll)
    have e5 : ((kids.length : Int) == (kids'.length : Int)) = false := by rw [beq_eq_false_iff_ne]; omega
    have f5 : ((kids.length : Int) != (kids'.length : Int)) = true := by simp only [bne, e5, Bool.not_false]
    have g5 : (kids.length == kids'.length) = false := by rw [beq_eq_false_iff_ne]; omega
    have j5 : (kids.length != kids'.length) = true := by simp only [bne, g5, Bool.not_false]
    clear hll
    go_enter Tryz.func28, Tryz.ntmps28
    go_wp2_with fail
    all_goals (first | (go_ret; exact ⟨false, rfl, ⟨fun h => (by cases h), fun h => absurd h HX.out⟩, Below.refl _ _⟩) | (exfalso; simp_all; done) | (exfalso; omega))
set_option maxRecDepth 1000000 in
set_option maxHeartbeats 8000000 in
theorem psame_aux (N : Nat) : ∀ (t u : NT) (v x : Value) (w : World), SizeOf.sizeOf t < N → NAt w t v → NAt w u x →
    Calls Tryz.prog 12 #[v, x] w fun e w' => e = .returned (.bool (sameB t u)) ∧ Below w.heap.size w w' := by
  induction N with
  | zero => intro t u v x w h _ _; omega
  | succ N ih =>
  intro t u v x w hN h h2
  obtain ⟨op, rs, nm, kids, mn, mx, ra, rc, a, c, rfl, rfl, hr, ⟨hml, hnm⟩, hk⟩ := h.open
  obtain ⟨op', rs', nm', kids', mn', mx', ra', rc', a', c', rfl, rfl, hr', ⟨hml', _⟩, hk'⟩ := h2.open
  have IH := fun (i : Nat) (hi : i < kids.length) (hi' : i < kids'.length) (W : World) (u y : Value) (hu : NAt W kids[i] u) (hy : NAt W kids'[i] y) => ih kids[i] kids'[i] u y W (by have := kid_lt (op := op) (rs := rs) (nm := nm) (mn := mn) (mx := mx) i hi; omega) hu hy
  have HER := Lib.hid fun W (hb : Below w.heap.size w W) => eqr_any rs rs' _ _ W (hr.later hb) (hr'.later hb)
  have HEF := Lib.hid fun W (hb : Below w.heap.size w W) => eqf_any 12 (enters_of (P := Tryz.prog) (fn := Tryz.f12) (by kernel_rfl) (by kernel_rfl) rfl) kids kids' a a' c c' W hml hml' (kids_later hb hk) (kids_later hb hk') IH
  obtain ⟨B, hB⟩ : ∃ B, sameB (.node op rs nm kids mn mx) (.node op' rs' nm' kids' mn' mx') = B := ⟨_, rfl⟩
  have hiff := sameB_iff (.node op rs nm kids mn mx) (.node op' rs' nm' kids' mn' mx')
  rw [hB] at hiff ⊢
  have HNO : Hid (¬ NT.node op rs nm kids mn mx = NT.node op' rs' nm' kids' mn' mx' → false = B) := Lib.hid (fun h => by
    cases B with
    | false => rfl
    | true => exact absurd (hiff.1 rfl) h)
  have HYY : Hid (NT.node op rs nm kids mn mx = NT.node op' rs' nm' kids' mn' mx' → true = B) := Lib.hid (fun h => (hiff.2 h).symm)
  clear hiff hB
  have hb1 := al_below w (.cells #[.int .i64 op, .slice ra rs.length rc, .string ⟨nm.toArray⟩, .slice a kids.length c, .int .i64 mn, .int .i64 mx] 25)
  have HBK1 := Lib.hid ((nE_new w op ra rs.length rc nm a kids.length c mn mx).on (al_below _ (.cells #[.int .i64 op', .slice ra' rs'.length rc', .string ⟨nm'.toArray⟩, .slice a' kids'.length c', .int .i64 mn', .int .i64 mx'] 25)) (by simp))
  have HBK2 := Lib.hid (nE_new (w.alloc (.cells #[.int .i64 op, .slice ra rs.length rc, .string ⟨nm.toArray⟩, .slice a kids.length c, .int .i64 mn, .int .i64 mx] 25)) op' ra' rs'.length rc' nm' a' kids'.length c' mn' mx')
  have HB0 := Lib.hid (hb1.alloc hb1.size (.cells #[.int .i64 op', .slice ra' rs'.length rc', .string ⟨nm'.toArray⟩, .slice a' kids'.length c', .int .i64 mn', .int .i64 mx'] 25))
  have hs1 : (w.alloc (.cells #[.int .i64 op, .slice ra rs.length rc, .string ⟨nm.toArray⟩, .slice a kids.length c, .int .i64 mn, .int .i64 mx] 25)).heap.size = w.heap.size + 1 := by simp
  rw [hs1] at HBK2
  obtain ⟨W0, hW0⟩ : ∃ W0, (w.alloc (.cells #[.int .i64 op, .slice ra rs.length rc, .string ⟨nm.toArray⟩, .slice a kids.length c, .int .i64 mn, .int .i64 mx] 25)).alloc (.cells #[.int .i64 op', .slice ra' rs'.length rc', .string ⟨nm'.toArray⟩, .slice a' kids'.length c', .int .i64 mn', .int .i64 mx'] 25) = W0 := ⟨_, rfl⟩
  rw [hW0] at HBK1 HBK2 HB0
  obtain ⟨p0, p1, p2, p3, p4, p5⟩ := bkn HBK1.out
  obtain ⟨q0, q1, q2, q3, q4, q5⟩ := bkn HBK2.out
  clear hk hk' h h2 hr hr' ih IH hN hnm hb1
  go_enter Tryz.func12, Tryz.ntmps12
  by_cases hop : op = op'
  · subst hop
    by_cases hnm' : nm = nm'
    · subst hnm'
      by_cases hmn : mn = mn'
      · subst hmn
        by_cases hmx : mx = mx'
        · subst hmx
          go_wp2_with fail
          refine (HER.out _ HB0.out).mono ?_
          rintro e w2 ⟨b1, rfl, hb1, hb⟩
          have HR1 := Lib.hid hb1
          have HBa := Lib.hid (HBK1.out.on hb HBK1.out.lt)
          have HBb := Lib.hid (HBK2.out.on hb HBK2.out.lt)
          have HB2 := Lib.hid (HB0.out.trans (hb.mono HB0.out.size))
          clear hb hb1 p0 p1 p2 p3 p4 p5 q0 q1 q2 q3 q4 q5
          obtain ⟨p0, p1, p2, p3, p4, p5⟩ := bkn HBa.out
          obtain ⟨q0, q1, q2, q3, q4, q5⟩ := bkn HBb.out
          cases b1 with
          | false =>
            have HX : Hid (false = B) := Lib.hid (HNO.out fun h => by have := HR1.out.2 (by injection h); cases this)
            go_wp2_with fail
            go_ret
            exact ⟨ret_bool HX.out, HB2.out⟩
          | true =>
            have hrr := HR1.out.1 rfl
            have HRR := Lib.hid hrr
            clear hrr
            go_wp2_with fail
            refine (HEF.out _ HB2.out).mono ?_
            rintro e w3 ⟨b2, rfl, hb2, hb⟩
            have HB3 := Lib.hid (HB2.out.trans (hb.mono HB2.out.size))
            have HX : Hid (b2 = B) := Lib.hid (by
              cases b2 with
              | true => exact HYY.out (by rw [HRR.out, hb2.1 rfl])
              | false => exact HNO.out (fun h => by have := hb2.2 (by injection h); cases this))
            clear hb hb2
            go_wp2_with fail
            go_ret
            exact ⟨ret_bool HX.out, HB3.out⟩
        · have zmx : (mx == mx') = false := by rw [beq_eq_false_iff_ne]; exact hmx
          have HX : Hid (false = B) := Lib.hid (HNO.out fun h => hmx (by injection h))
          go_wp2_with fail
          all_goals (first | (go_ret; exact ⟨ret_bool HX.out, HB0.out⟩) | (exfalso; simp_all; done) | (exfalso; omega))
      · have zmn : (mn == mn') = false := by rw [beq_eq_false_iff_ne]; exact hmn
        have HX : Hid (false = B) := Lib.hid (HNO.out fun h => hmn (by injection h))
        go_wp2_with fail
        all_goals (first | (go_ret; exact ⟨ret_bool HX.out, HB0.out⟩) | (exfalso; simp_all; done) | (exfalso; omega))
    · have znm : (nm == nm') = false := by rw [beq_eq_false_iff_ne]; exact hnm'
      have HX : Hid (false = B) := Lib.hid (HNO.out fun h => hnm' (by injection h))
      go_wp2_with fail
      all_goals (first | (go_ret; exact ⟨ret_bool HX.out, HB0.out⟩) | (exfalso; simp_all; done) | (exfalso; omega))
  · have zop : (op == op') = false := by rw [beq_eq_false_iff_ne]; exact hop
    have HX : Hid (false = B) := Lib.hid (HNO.out fun h => hop (by injection h))
    go_wp2_with fail
    all_goals (first | (go_ret; exact ⟨ret_bool HX.out, HB0.out⟩) | (exfalso; simp_all; done) | (exfalso; omega))
theorem psame_any (t u : NT) (v x : Value) (w : World) (h : NAt w t v) (h2 : NAt w u x) :
    Calls Tryz.prog 12 #[v, x] w fun e w' => e = .returned (.bool (sameB t u)) ∧ Below w.heap.size w w' := psame_aux _ t u v x w (Nat.lt_succ_self _) h h2
end Go.Proofs.YtphbkompnddflaaGreatDoor

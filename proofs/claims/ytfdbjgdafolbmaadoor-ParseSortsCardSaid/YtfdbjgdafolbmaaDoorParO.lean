/-
  Sort of the reference: an insertion sort into a row of the call's own.
-/
import Derived.Test.YtfdbjgdafolbmaaDoorParN
import Derived.Deep.MidRow
import Derived.Laws.OwnMore
namespace Go.Proofs.YtfdbjgdafolbmaaDoor
open Go.RowKit Go.Sort Go.Shelf

theorem cellsF_set (d : List Fd) : ∀ (j : Nat) (x : Fd), ((cellsF d).set (j * 2) (.string ⟨x.1.toArray⟩)).set (j * 2 + 1) (.string ⟨x.2.toArray⟩) = cellsF (d.set j x) := by
  induction d with
  | nil => intro j x; rfl
  | cons y d ih =>
    intro j x
    cases j with
    | zero => simp [cellsF, encF]
    | succ j =>
      have h := ih j x
      rw [show (j + 1) * 2 = j * 2 + 1 + 1 by omega]
      simp only [cellsF, List.flatMap_cons, List.set_cons_succ, encF, List.cons_append, List.nil_append] at h ⊢
      rw [h]

/-- A field is stored into a row of the call's own. -/
theorem KI.stored {w W : World} {out : List Fd} {g cap n : Nat} (h : KI w out (.slice (some ⟨g, 0, none⟩) n cap) W) (hn : out.length = n) (hg : w.heap.size ≤ g) (j : Nat) (x : Fd) :
    KI w (out.set j x) (.slice (some ⟨g, 0, none⟩) n cap) (W.setCells g (j * 2) (encF x)) := by
  subst hn
  have h1 := h.own.stored (j * 2) (.string ⟨x.1.toArray⟩)
  have h2 := h1.1.stored (j * 2 + 1) (.string ⟨x.2.toArray⟩)
  refine ⟨?_, ?_⟩
  · rw [← cellsF_set, List.length_set]
    exact h2.1
  · exact (h.below.setCell (p := ⟨g, j * 2, none⟩) hg _).setCell (p := ⟨g, j * 2 + 1, none⟩) hg _

/-- The row's cells. -/
theorem KI.at {w W : World} {out : List Fd} {g cap n : Nat} (h : KI w out (.slice (some ⟨g, 0, none⟩) n cap) W) (hn : out.length = n) : g < W.heap.size ∧ w.heap.size ≤ g ∧ FAt W g 0 out ∧ ∀ i, W.frozen? ⟨g, i, none⟩ = false := by
  subst hn
  obtain ⟨h1, h2, h3, h4⟩ := cells_ownF h.own
  refine ⟨h1, h2, fun i hi => ?_, h4⟩
  rw [Nat.zero_add]
  exact ⟨h3 _ _ ((cellsF_at out i 0 hi (by omega)).trans rfl), h3 _ _ ((cellsF_at out i 1 hi (by omega)).trans rfl)⟩
theorem KI.there {w W : World} {out : List Fd} {g cap n : Nat} (h : KI w out (.slice (some ⟨g, 0, none⟩) n cap) W) (hn : out.length = n) (j : Nat) (hj : j < n) : W.there g (j * 2) 2 := by
  obtain ⟨_, _, h3, h4⟩ := h.at hn
  obtain ⟨a, b⟩ := h3 j (by omega)
  rw [Nat.zero_add] at a b
  intro i hi
  refine ⟨?_, h4 _⟩
  have : i = 0 ∨ i = 1 := by omega
  rcases this with rfl | rfl
  · rw [Nat.add_zero, a]; rfl
  · rw [b]; rfl

/-- What the walk asks of a store of a field into the row, and what it leaves. -/
theorem KI.store4 {w W : World} {out : List Fd} {g cap n : Nat} (h : KI w out (.slice (some ⟨g, 0, none⟩) n cap) W) (hn : out.length = n) (hg : w.heap.size ≤ g) (j : Nat) (hj : j < n) (x : Fd) :
    ∃ u1 u2, W.cell? ⟨g, j * 2, none⟩ = some u1 ∧ W.frozen? ⟨g, j * 2, none⟩ = false ∧ (W.setCell ⟨g, j * 2, none⟩ (.string ⟨x.1.toArray⟩)).cell? ⟨g, j * 2 + 1, none⟩ = some u2 ∧ (W.setCell ⟨g, j * 2, none⟩ (.string ⟨x.1.toArray⟩)).frozen? ⟨g, j * 2 + 1, none⟩ = false ∧
      KI w (out.set j x) (.slice (some ⟨g, 0, none⟩) n cap) ((W.setCell ⟨g, j * 2, none⟩ (.string ⟨x.1.toArray⟩)).setCell ⟨g, j * 2 + 1, none⟩ (.string ⟨x.2.toArray⟩)) := by
  obtain ⟨_, _, h3, h4⟩ := h.at hn
  obtain ⟨a, b⟩ := h3 j (by omega)
  rw [Nat.zero_add] at a b
  refine ⟨.string ⟨(out[j]).1.toArray⟩, .string ⟨(out[j]).2.toArray⟩, a, h4 _, ?_, ?_, h.stored hn hg j x⟩
  · rw [World.cell?_setCell_other _ _ _ _ (by intro h; simp only [Addr.mk.injEq] at h; omega)]; exact b
  · rw [World.frozen?_setCell]; exact h4 _

/-! The plain insertion sort. -/
def insPos (out : List Fd) (nm : List UInt8) : Nat → Nat
  | 0 => 0
  | k + 1 => if (!(Op.bytesLess (out[k]!).1 nm || (out[k]!).1 == nm)) = true then insPos out nm k else k + 1
def rsort (out : List Fd) : List Fd → Option (List Fd)
  | [] => some out
  | x :: r => if 0 < insPos out x.1 out.length ∧ (out[insPos out x.1 out.length - 1]!).1 = x.1 then none else rsort (out.take (insPos out x.1 out.length) ++ x :: out.drop (insPos out x.1 out.length)) r
theorem rsort_step (out : List Fd) (x : Fd) (r : List Fd) (j : Nat) (h : insPos out x.1 out.length = j) : rsort out (x :: r) = if 0 < j ∧ (out[j - 1]!).1 = x.1 then none else rsort (out.take j ++ x :: out.drop j) r := by
  rw [rsort, h]
theorem insPos_gt {out : List Fd} {nm : List UInt8} {k : Nat} (h1 : Op.bytesLess (out[k]!).1 nm = false) (h2 : (out[k]!).1 ≠ nm) : insPos out nm (k + 1) = insPos out nm k := by
  rw [insPos, h1, beq_eq_false_iff_ne.2 h2]; rfl
theorem insPos_lt {out : List Fd} {nm : List UInt8} {k : Nat} (h1 : Op.bytesLess (out[k]!).1 nm = true) : insPos out nm (k + 1) = k + 1 := by
  rw [insPos, h1]; rfl
theorem insPos_eq {out : List Fd} {nm : List UInt8} {k : Nat} (h2 : (out[k]!).1 = nm) : insPos out nm (k + 1) = k + 1 := by
  rw [insPos, h2]; simp
theorem mid_set (out : List Fd) (z y : Fd) {j : Nat} (h : j ≤ out.length) : (out.take j ++ z :: out.drop j).set j y = out.take j ++ y :: out.drop j := by
  rw [List.set_append_right _ _ (by rw [List.length_take]; omega), List.length_take, Nat.min_eq_left h, Nat.sub_self]
  rfl
theorem mid_len (out : List Fd) (z : Fd) {j : Nat} (h : j ≤ out.length) : (out.take j ++ z :: out.drop j).length = out.length + 1 := by
  simp; omega
theorem mid_get (out : List Fd) (z : Fd) {i j : Nat} (h : i < j) (hj : j ≤ out.length) : (out.take j ++ z :: out.drop j)[i]'(by rw [mid_len out z hj]; omega) = out[i]! := by
  rw [List.getElem_append_left (by rw [List.length_take]; omega), List.getElem_take, getElem!_pos _ _ (by omega)]
theorem mid_shift (out : List Fd) {j : Nat} (h : j < out.length) : out.take (j + 1) ++ out[j]! :: out.drop (j + 1) = out.take j ++ out[j]! :: out.drop j := by
  have e : out[j]! = out[j] := getElem!_pos out j h
  rw [Asc.snoc_take out j h, e, List.append_assoc, List.drop_eq_getElem_cons h]
  rfl

/-- The slice of fields that came in. -/
def FI (w : World) (v : Value) (d : List Fd) : Prop :=
  ∃ a cap, v = .slice a d.length cap ∧ (0 < d.length → ∃ g off, a = some ⟨g, off, none⟩ ∧ g < w.heap.size ∧ FAt w g off d)
def RsPost (w : World) (r : Option (List Fd)) (e : Ending) (w' : World) : Prop :=
  match r with
  | some o => ∃ v', e = .returned (.tuple #[v', .int .i64 0]) ∧ KI w o v' w'
  | none => e = .returned (.tuple #[.slice none 0 0, .int .i64 7]) ∧ Below w.heap.size w w'

set_option maxRecDepth 100000 in
set_option maxHeartbeats 4000000 in
theorem rsort_any (v : Value) (d : List Fd) (w : World) (hv : FI w v d) (hl : d.length ≤ 32) (hn : ∀ i (h : i < d.length), NameOk (d[i]).1) :
    Calls Tryd.prog 10 #[v] w (RsPost w (rsort [] d)) := by
  obtain ⟨a, cap, rfl, hc⟩ := hv
  have HC := Lib.hid hc
  have HN := Lib.hid hn
  clear hc hn
  have t1 : decide (32 < (d.length : Int)) = false := by simp; omega
  go_enter Tryd.func10, Tryd.ntmps10
  go_wp2_with fail
  go_loop [4] (fun i => ∃ k : Nat, k ≤ d.length ∧ i = .int .i64 k) (fun i => d.length - (intOf i).toNat)
  case atStart => exact ⟨0, by omega, rfl⟩
  case round =>
    obtain ⟨k, hk, rfl⟩ := hrel
    by_cases hlt : k < d.length
    · obtain ⟨g, off, rfl, hg, hf⟩ := HC.out (by omega)
      have c0 := (hf k hlt).1
      have HF := Lib.hid (fieldName_yes (d[k]).1 w (HN.out k hlt))
      have i1 : (k : Int) < (d.length : Int) := by omega
      have i2 : (0 : Int) ≤ (k : Int) := by omega
      clear hf HC HN
      generalize (d[k]).1 = nm at *
      go_wp2_with (go_at_call 22; refine HF.out.mono ?_; rintro e w' ⟨rfl, rfl⟩)
      go_round
      case rel => exact ⟨k + 1, by omega, by go_num⟩
      case measure => simp [intOf]; omega
    · go_wp2_with fail
      go_loopw [5, 6] (fun v i wr => ∃ out : List Fd, out.length ≤ d.length ∧ i = .int .i64 (out.length : Nat) ∧ rsort [] d = rsort out (d.drop out.length) ∧ KI w out v wr) (fun _ i _ => d.length - (intOf i).toNat)
      case atStart => exact ⟨[], by simp, rfl, rfl, KI.nil w⟩
      case round =>
        obtain ⟨out, hol, rfl, hrs, hI⟩ := hrel
        have HR := Lib.hid hrs
        have HI := Lib.hid hI
        clear hrs hI hlt hk
        obtain ⟨wo, rfl⟩ : ∃ wo : World, wo = wr := ⟨_, rfl⟩
        by_cases hlt : out.length < d.length
        · obtain ⟨g, off, rfl, hg, hf⟩ := HC.out (by omega)
          obtain ⟨f0, f1⟩ := hf out.length hlt
          have HE := Lib.hid (show d.drop out.length = d[out.length] :: d.drop (out.length + 1) from List.drop_eq_getElem_cons hlt)
          obtain ⟨x, hx⟩ : ∃ x, d[out.length] = x := ⟨_, rfl⟩
          rw [hx] at f0 f1 HE
          have HF0 := Lib.hid f0
          have HF1 := Lib.hid f1
          have c0 := (HI.out.below.cell (p := ⟨g, off + out.length * 2, none⟩) hg).trans f0
          have c1 := (HI.out.below.cell (p := ⟨g, off + out.length * 2 + 1, none⟩) hg).trans f1
          clear hx hf f0 f1 HN
          obtain ⟨a5, c5, rfl⟩ : ∃ a c, u5 = .slice a out.length c := by
            obtain ⟨_, ⟨e, h0⟩ | ⟨g, cap, cur, hv, _⟩⟩ := HI.out.own
            · exact ⟨none, 0, by rw [e, h0]⟩
            · exact ⟨_, _, hv⟩
          have hown := HI.out.own
          have hsz := HI.out.below.size
          have q1 : out.length + 1 ≤ 140737488355328 := by omega
          have q2 : (out.length + 1) * 32 ≤ 140737488355328 := by omega
          have i1 : (out.length : Int) < (d.length : Int) := by omega
          have i2 : (0 : Int) ≤ (out.length : Int) := by omega
          go_wp2_with (at_builtin; refine wpList_append_k (ys := [.string ⟨x.1.toArray⟩, .string ⟨x.2.toArray⟩]) rfl _ _ 27 30 (.agg #[.string ⟨#[]⟩, .string ⟨#[]⟩]) 2 32 rfl Tryd.underlying27 infoF rfl (by decide) w.heap.size _ _ _ rfl hown rfl wo.heap.size rfl rfl (one_encF [x]) q1 q2 hsz ?_; intro v' w2 hown' hgrow; have HX2 := Lib.hid (HI.out.push x hown' hgrow); clear hown hown' hgrow c0 c1)
          obtain ⟨g', c', hv'⟩ : ∃ g' c', v' = .slice (some ⟨g', 0, none⟩) (out.length + 1) c' := by
            obtain ⟨_, ⟨_, h0⟩ | ⟨g, cap, cur, hv, _⟩⟩ := HX2.out.own
            · simp at h0
            · exact ⟨g, cap, by rw [hv, List.length_append]; rfl⟩
          obtain ⟨m, hm⟩ : ∃ m, out.length + 1 = m := ⟨_, rfl⟩
          rw [hm] at hv'
          subst hv'
          have HM := Lib.hid hm
          have hgB := (HX2.out.at (by rw [List.length_append]; exact hm)).2.1
          have hm1 : out.length < m := by omega
          clear hm
          go_loopw [7] (fun kk wr2 => ∃ (j : Nat) (z : Fd), j ≤ out.length ∧ kk = .int .i64 j ∧ insPos out x.1 out.length = insPos out x.1 j ∧ KI w (out.take j ++ z :: out.drop j) (.slice (some ⟨g', 0, none⟩) m c') wr2) (fun kk _ => (intOf kk).toNat)
          case atStart => exact ⟨out.length, x, Nat.le_refl _, rfl, rfl, by rw [List.take_length, List.drop_length]; exact HX2.out⟩
          case round =>
            obtain ⟨j, z, hj, rfl, hpos, hI2⟩ := hrel
            have HP := Lib.hid hpos
            have HI2 := Lib.hid hI2
            clear hpos hI2 HX2
            cases j with
            | zero =>
              go_wp2_with fail
              go_quiet (fail)
              obtain ⟨Wq, hWq⟩ : ∃ Wq, wr.drewN nq = Wq := ⟨_, rfl⟩
              have h3 := HI2.out.later (below_drewN (Below.refl _ wr) nq)
              rw [hWq] at h3 ⊢
              have HI3 := Lib.hid h3
              clear h3 hWq HI2
              have e0 : Wq.cell? ⟨g, off + out.length * 2, none⟩ = some (.string ⟨x.1.toArray⟩) := (HI3.out.below.cell (p := ⟨g, off + out.length * 2, none⟩) hg).trans HF0.out
              have e1 : Wq.cell? ⟨g, off + out.length * 2 + 1, none⟩ = some (.string ⟨x.2.toArray⟩) := (HI3.out.below.cell (p := ⟨g, off + out.length * 2 + 1, none⟩) hg).trans HF1.out
              obtain ⟨u1, u2, s1, s2, s3, s4, hk3⟩ := HI3.out.store4 ((mid_len out z hj).trans HM.out) hgB (0) (by omega) x
              rw [mid_set out z x hj] at hk3
              simp only [Nat.zero_mul, Nat.zero_add] at s1 s2 s3 s4 hk3
              have i3 : (0 : Int) < (m : Int) := by omega
              obtain ⟨W3, hW3⟩ : ∃ W3, (Wq.setCell ⟨g', 0, none⟩ (.string ⟨x.1.toArray⟩)).setCell ⟨g', 1, none⟩ (.string ⟨x.2.toArray⟩) = W3 := ⟨_, rfl⟩
              rw [hW3] at hk3
              have HK3 := Lib.hid hk3
              have HW3 := Lib.hid hW3
              clear hk3 hW3 HI3
              go_wp2_with fail
              rw [HW3.out]
              clear HW3 s1 s2 s3 s4 e1
              go_quiet (fail)
              go_wp2_with fail
              refine ⟨⟨out.take 0 ++ x :: out.drop 0, ?_, ?_, ?_, HK3.out.later (below_drewN (Below.refl _ _) nq)⟩, by simp [intOf]; omega⟩
              · rw [mid_len out x hj]; omega
              · rw [mid_len out x hj]; rfl
              · rw [mid_len out x hj, HR.out, HE.out, rsort_step out x _ 0 (HP.out.trans rfl)]
                exact if_neg fun h => absurd h.1 (by omega)
            | succ j =>
              have hmg := fun z (W : World) (h : KI w (out.take (j + 1) ++ z :: out.drop (j + 1)) (.slice (some ⟨g', 0, none⟩) m c') W) => (h.at ((mid_len out z hj).trans HM.out)).2.2.1 j (by rw [mid_len out z hj]; omega)
              simp only [mid_get out _ (Nat.lt_succ_self j) hj, Nat.zero_add] at hmg
              have HG := Lib.hid hmg
              have HS := Lib.hid (mid_shift out (show j < out.length by omega))
              clear hmg
              obtain ⟨y, hy⟩ : ∃ y, out[j]! = y := ⟨_, rfl⟩
              rw [hy] at HG HS
              have HY := Lib.hid hy
              clear hy
              have e0 : wr.cell? ⟨g, off + out.length * 2, none⟩ = some (.string ⟨x.1.toArray⟩) := (HI2.out.below.cell (p := ⟨g, off + out.length * 2, none⟩) hg).trans HF0.out
              obtain ⟨p0, p1⟩ := HG.out z wr HI2.out
              have i3 : (j : Int) < (m : Int) := by omega
              have i4 : (0 : Int) ≤ (j : Int) := by omega
              have i5 : (j : Int) + 1 < (m : Int) := by omega
              have i6 : (0 : Int) ≤ (j : Int) + 1 := by omega
              have i7 : (0 : Int) < (j : Int) + 1 := by omega
              by_cases he : y.1 = x.1
              · have HP2 := Lib.hid (insPos_eq (out := out) (nm := x.1) (k := j) (by rw [HY.out]; exact he))
                have HEQ := Lib.hid he
                rw [he] at p0
                clear he
                go_wp2_with fail
                go_quiet (fail)
                obtain ⟨Wq, hWq⟩ : ∃ Wq, wr.drewN nq = Wq := ⟨_, rfl⟩
                have h3 := HI2.out.later (below_drewN (Below.refl _ wr) nq)
                rw [hWq] at h3 ⊢
                have HI3 := Lib.hid h3
                clear h3 hWq HI2 p0 p1 e0
                have e0 : Wq.cell? ⟨g, off + out.length * 2, none⟩ = some (.string ⟨x.1.toArray⟩) := (HI3.out.below.cell (p := ⟨g, off + out.length * 2, none⟩) hg).trans HF0.out
                have e1 : Wq.cell? ⟨g, off + out.length * 2 + 1, none⟩ = some (.string ⟨x.2.toArray⟩) := (HI3.out.below.cell (p := ⟨g, off + out.length * 2 + 1, none⟩) hg).trans HF1.out
                obtain ⟨u1, u2, s1, s2, s3, s4, hk3⟩ := HI3.out.store4 ((mid_len out z hj).trans HM.out) hgB (j + 1) (by omega) x
                rw [mid_set out z x hj] at hk3
                obtain ⟨W3, hW3⟩ : ∃ W3, (Wq.setCell ⟨g', (j + 1) * 2, none⟩ (.string ⟨x.1.toArray⟩)).setCell ⟨g', (j + 1) * 2 + 1, none⟩ (.string ⟨x.2.toArray⟩) = W3 := ⟨_, rfl⟩
                rw [hW3] at hk3
                have HK3 := Lib.hid hk3
                have HW3 := Lib.hid hW3
                clear hk3 hW3 HI3
                go_wp2_with fail
                rw [HW3.out]
                clear HW3 s1 s2 s3 s4 e0 e1
                obtain ⟨p0, p1⟩ := HG.out x W3 HK3.out
                rw [HEQ.out] at p0
                have e0 : W3.cell? ⟨g, off + out.length * 2, none⟩ = some (.string ⟨x.1.toArray⟩) := (HK3.out.below.cell (p := ⟨g, off + out.length * 2, none⟩) hg).trans HF0.out
                go_quiet (fail)
                go_wp2_with fail
                go_ret2
                rw [HR.out, HE.out, rsort_step out x _ (j + 1) (HP.out.trans HP2.out), if_pos ⟨by omega, by rw [Nat.add_sub_cancel, HY.out]; exact HEQ.out⟩]
                exact ⟨rfl, below_drewN HK3.out.below nq⟩
              · have hbe : (y.1 == x.1) = false := beq_eq_false_iff_ne.2 he
                have hxe : (x.1 == y.1) = false := beq_eq_false_iff_ne.2 fun e => he e.symm
                cases hls : Op.bytesLess y.1 x.1
                · have HP2 := Lib.hid (insPos_gt (out := out) (nm := x.1) (k := j) (by rw [HY.out]; exact hls) (by rw [HY.out]; exact he))
                  clear he
                  go_wp2_with fail
                  go_quiet (fail)
                  obtain ⟨Wq, hWq⟩ : ∃ Wq, wr.drewN nq = Wq := ⟨_, rfl⟩
                  have h3 := HI2.out.later (below_drewN (Below.refl _ wr) nq)
                  rw [hWq] at h3 ⊢
                  have HI3 := Lib.hid h3
                  clear h3 hWq HI2 p0 p1 e0
                  obtain ⟨p0, p1⟩ := HG.out z Wq HI3.out
                  obtain ⟨u1, u2, s1, s2, s3, s4, hk3⟩ := HI3.out.store4 ((mid_len out z hj).trans HM.out) hgB (j + 1) (by omega) y
                  rw [mid_set out z y hj, HS.out] at hk3
                  have HK3 := Lib.hid hk3
                  clear hk3 HI3
                  go_wp2_with fail
                  go_roundw
                  case rel => exact ⟨j, y, by omega, by go_num, HP.out.trans HP2.out, HK3.out⟩
                  case measure => simp [intOf]
                · have HP2 := Lib.hid (insPos_lt (out := out) (nm := x.1) (k := j) (by rw [HY.out]; exact hls))
                  have HNE := Lib.hid he
                  clear he
                  go_wp2_with fail
                  go_quiet (fail)
                  obtain ⟨Wq, hWq⟩ : ∃ Wq, wr.drewN nq = Wq := ⟨_, rfl⟩
                  have h3 := HI2.out.later (below_drewN (Below.refl _ wr) nq)
                  rw [hWq] at h3 ⊢
                  have HI3 := Lib.hid h3
                  clear h3 hWq HI2 p0 p1 e0
                  have e0 : Wq.cell? ⟨g, off + out.length * 2, none⟩ = some (.string ⟨x.1.toArray⟩) := (HI3.out.below.cell (p := ⟨g, off + out.length * 2, none⟩) hg).trans HF0.out
                  have e1 : Wq.cell? ⟨g, off + out.length * 2 + 1, none⟩ = some (.string ⟨x.2.toArray⟩) := (HI3.out.below.cell (p := ⟨g, off + out.length * 2 + 1, none⟩) hg).trans HF1.out
                  obtain ⟨u1, u2, s1, s2, s3, s4, hk3⟩ := HI3.out.store4 ((mid_len out z hj).trans HM.out) hgB (j + 1) (by omega) x
                  rw [mid_set out z x hj] at hk3
                  obtain ⟨W3, hW3⟩ : ∃ W3, (Wq.setCell ⟨g', (j + 1) * 2, none⟩ (.string ⟨x.1.toArray⟩)).setCell ⟨g', (j + 1) * 2 + 1, none⟩ (.string ⟨x.2.toArray⟩) = W3 := ⟨_, rfl⟩
                  rw [hW3] at hk3
                  have HK3 := Lib.hid hk3
                  have HW3 := Lib.hid hW3
                  clear hk3 hW3 HI3
                  go_wp2_with fail
                  rw [HW3.out]
                  clear HW3 s1 s2 s3 s4 e0 e1
                  obtain ⟨p0, p1⟩ := HG.out x W3 HK3.out
                  have e0 : W3.cell? ⟨g, off + out.length * 2, none⟩ = some (.string ⟨x.1.toArray⟩) := (HK3.out.below.cell (p := ⟨g, off + out.length * 2, none⟩) hg).trans HF0.out
                  go_quiet (fail)
                  go_wp2_with fail
                  refine ⟨⟨out.take (j + 1) ++ x :: out.drop (j + 1), ?_, ?_, ?_, HK3.out.later (below_drewN (Below.refl _ _) nq)⟩, by simp [intOf]; omega⟩
                  · rw [mid_len out x hj]; omega
                  · rw [mid_len out x hj]; rfl
                  · rw [mid_len out x hj, HR.out, HE.out, rsort_step out x _ (j + 1) (HP.out.trans HP2.out)]
                    exact if_neg fun h => HNE.out (by have h2 := h.2; rw [Nat.add_sub_cancel, HY.out] at h2; exact h2)
        · have hle : d.drop out.length = [] := by rw [List.drop_eq_nil_iff]; omega
          have hr := HR.out
          rw [hle, rsort] at hr
          have HR2 := Lib.hid hr
          clear hr hle HR
          go_wp2_with fail
          go_ret2
          rw [HR2.out]
          exact ⟨_, rfl, HI.out⟩

end Go.Proofs.YtfdbjgdafolbmaaDoor

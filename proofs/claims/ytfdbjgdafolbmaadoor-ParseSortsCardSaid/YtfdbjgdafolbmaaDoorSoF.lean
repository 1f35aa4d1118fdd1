/-
  Sort of package parse for every list that is not empty.
-/
import Derived.Test.YtfdbjgdafolbmaaDoorSoE
namespace Go.Proofs.YtfdbjgdafolbmaaDoor
open Go.RowKit Go.Sort Go.Shelf

theorem name_noG (l : List UInt8) (w : World) (hk : Kinds w) (h : ¬ NameOk l) :
    Calls Tryd.prog 26 #[.string ⟨l.toArray⟩] w fun e w' => e = .returned (.bool false) ∧ RowKit.Below w.heap.size w w' := by
  rcases Nat.lt_or_ge 32 l.length with h32 | h32
  · have hpos : 0 < l.length := by omega
    have e2 : (l.isEmpty) = false := by cases l with | nil => simp at hpos | cons a b => rfl
    have e1 : decide (32 < (l.length : Int)) = true := by simp; omega
    clear h hk
    go_enter Tryd.func26, Tryd.ntmps26
    go_wp2_with fail
    go_ret
    exact ⟨rfl, Below.refl _ _⟩
  · exact name_no l w hk h (by omega)

theorem stableS {w0 W : World} {blk : Nat} {d : Array Fd} (cap : Nat) (h : RW w0 blk d W) (hd : d.size ≤ 32) :
    Calls Tryd.prog 28 #[.slice (some ⟨blk, 0, none⟩) d.size cap, cmpV] W fun e w' => e = .returned (.tuple #[]) ∧ ∃ d', Mg d 0 d.size d' ∧ RW w0 blk d' w' := by
  have HI := Lib.hid (stableR cap h hd)
  clear h
  obtain ⟨n, hn⟩ : ∃ n, d.size = n := ⟨_, rfl⟩
  rw [hn] at HI ⊢
  clear hn hd
  go_enter Tryd.func28, Tryd.ntmps28
  go_wp2_with fail
  refine HI.out.mono ?_
  rintro e w1 ⟨rfl, d1, hg1, h1⟩
  have HF := Lib.hid (show Mg d 0 n d1 ∧ RW w0 blk d1 w1 from ⟨hg1, h1⟩)
  clear hg1 h1
  go_wp2_with fail
  go_end0
  exact ⟨rfl, d1, HF.out.1, HF.out.2⟩

/-- A name occurs twice, one behind the other, from k on. -/
def Twc (S : Array Fd) (n k : Nat) : Prop := ∃ i, k ≤ i ∧ 1 ≤ i ∧ i < n ∧ (S[i]!).1 = (S[i - 1]!).1
def SortR (w : World) (d : List Fd) (e : Ending) (w' : World) : Prop :=
  (32 < d.length ∧ e = .returned (.tuple #[.slice none 0 0, .int .i64 4]) ∧ RowKit.Below w.heap.size w w') ∨
  (d.length ≤ 32 ∧ BadF d 0 ∧ e = .returned (.tuple #[.slice none 0 0, .int .i64 6]) ∧ RowKit.Below w.heap.size w w') ∨
  (d.length ≤ 32 ∧ ¬ BadF d 0 ∧ ∃ S : Array Fd, Mg d.toArray 0 d.length S ∧
    ((Twc S d.length 1 ∧ e = .returned (.tuple #[.slice none 0 0, .int .i64 7]) ∧ RowKit.Below w.heap.size w w') ∨
     (¬ Twc S d.length 1 ∧ ∃ v, e = .returned (.tuple #[v, .int .i64 0]) ∧ FI w' v S.toList ∧ RowKit.Below w.heap.size w w')))

theorem pSort_many (v : Value) (d : List Fd) (w : World) (hv : FI w v d) (h : 32 < d.length) (hl : d.length ≤ 9223372036854775807) :
    Calls Tryd.prog 15 #[v] w (SortR w d) := by
  obtain ⟨a, cap, rfl, _⟩ := hv
  have t1 : decide (32 < (d.length : Int)) = true := by simp; omega
  have HF := Lib.hid (show SortR w d (.returned (.tuple #[.slice none 0 0, .int .i64 4])) w from .inl ⟨h, rfl, Below.refl _ _⟩)
  go_enter Tryd.func15, Tryd.ntmps15
  go_wp2_with fail
  go_ret2
  exact HF.out

set_option maxRecDepth 100000 in
set_option maxHeartbeats 2000000 in
theorem pSort_pos (g off cap : Nat) (d : List Fd) (w : World) (hk : Kinds w) (hg : g < w.heap.size) (hf : FAt w g off d) (h0 : 0 < d.length) (h32 : d.length ≤ 32) :
    Calls Tryd.prog 15 #[.slice (some ⟨g, off, none⟩) d.length cap] w (SortR w d) := by
  have HC := Lib.hid hf
  have HK := Lib.hid hk
  clear hf hk
  have t1 : decide (32 < (d.length : Int)) = false := by simp; omega
  go_enter Tryd.func15, Tryd.ntmps15
  go_wp2_with fail
  go_loopw [12] (fun i wr => ∃ k : Nat, k ≤ d.length ∧ i = .int .i64 k ∧ RowKit.Below w.heap.size w wr ∧ (∀ i (h : i < d.length), i < k → NameOk (d[i]).1)) (fun i _ => d.length - (intOf i).toNat)
  case atStart => exact ⟨0, by omega, rfl, Below.refl _ _, fun i _ h => by omega⟩
  case round =>
    obtain ⟨k, hkl, rfl, hb, hok⟩ := hrel
    have HOK := Lib.hid hok
    clear hok
    by_cases hlt : k < d.length
    · have c0 : wr.cell? ⟨g, off + k * 2, none⟩ = some (.string ⟨(d[k]).1.toArray⟩) := (hb.cell (p := ⟨g, off + k * 2, none⟩) hg).trans (HC.out k hlt).1
      have c1 : wr.cell? ⟨g, off + k * 2 + 1, none⟩ = some (.string ⟨(d[k]).2.toArray⟩) := (hb.cell (p := ⟨g, off + k * 2 + 1, none⟩) hg).trans (HC.out k hlt).2
      have hsz := hb.size
      by_cases hn : NameOk (d[k]).1
      · have HY := Lib.hid fun W (h : RowKit.Below w.heap.size w W) => name_yes (d[k]).1 W (HK.out.below h) hn
        have HNX := Lib.hid (show ∀ i (h : i < d.length), i < k + 1 → NameOk (d[i]).1 from fun i h hi => by
          rcases Nat.lt_or_ge i k with c | c
          · exact HOK.out i h c
          · obtain rfl : i = k := by omega
            exact hn)
        clear hn
        generalize d[k] = x at *
        obtain ⟨nm, vl⟩ := x
        go_wp2_with fail
        refine (HY.out _ (hb.alloc hsz _)).mono ?_
        rintro e w1 ⟨rfl, hb1⟩
        have hb2 : RowKit.Below w.heap.size w w1 := (hb.alloc hsz _).trans (hb1.mono (by simp; omega))
        go_wp2_with fail
        go_roundw
        case rel => exact ⟨k + 1, by omega, by go_num, hb2, HNX.out⟩
        case measure => simp [intOf]; omega
      · have HY := Lib.hid fun W (h : RowKit.Below w.heap.size w W) => name_noG (d[k]).1 W (HK.out.below h) hn
        have HBD := Lib.hid (show BadF d 0 from ⟨k, hlt, by omega, hn⟩)
        clear hn
        generalize d[k] = x at *
        obtain ⟨nm, vl⟩ := x
        go_wp2_with fail
        refine (HY.out _ (hb.alloc hsz _)).mono ?_
        rintro e w1 ⟨rfl, hb1⟩
        have hb2 : RowKit.Below w.heap.size w w1 := (hb.alloc hsz _).trans (hb1.mono (by simp; omega))
        go_wp2_with fail
        go_ret2
        exact .inr (.inl ⟨h32, HBD.out, rfl, hb2⟩)
    · have HNB := Lib.hid (show ¬ BadF d 0 from fun ⟨i, hi, _, hn⟩ => hn (HOK.out i hi (by omega)))
      go_wp2_with fail
      refine (clone_any g off cap d wr h0 (by omega) (fun j u hj => ?_)).mono ?_
      · have hj2 : j < d.length * 2 := by rw [← cellsF_length]; exact (List.getElem?_eq_some_iff.1 hj).1
        have hi : j / 2 < d.length := by omega
        obtain ⟨a, b⟩ := HC.out (j / 2) hi
        have hc := cellsF_at d (j / 2) (j % 2) hi (by omega)
        rw [show j / 2 * 2 + j % 2 = j by omega, hj] at hc
        have hm : j % 2 = 0 ∨ j % 2 = 1 := by omega
        rw [(hb.cell (p := ⟨g, off + j, none⟩) hg)]
        rcases hm with e | e
        · rw [e] at hc
          injection hc with hc
          rw [show off + j = off + j / 2 * 2 by omega, a, hc]
        · rw [e] at hc
          injection hc with hc
          rw [show off + j = off + j / 2 * 2 + 1 by omega, b, hc]
      · rintro e w1 ⟨g', c', rfl, hown, hb1⟩
        obtain ⟨hg1, hgB, hcl, hfr⟩ := cells_ownF hown
        have hbw1 : RowKit.Below w.heap.size w w1 := hb.trans (hb1.mono hb.size)
        have hRW : RW w g' d.toArray w1 := by
          refine ⟨fun i hi => ?_, hfr, Nat.le_trans hb.size hgB, hg1, hbw1⟩
          have hi' : i < d.length := by simpa using hi
          have e1 : d.toArray[i]! = d[i] := by rw [getElem!_pos d.toArray i hi]; simp
          rw [e1]
          exact ⟨hcl _ _ ((cellsF_at d i 0 hi' (by omega)).trans rfl), hcl _ _ ((cellsF_at d i 1 hi' (by omega)).trans rfl)⟩
        have HS := Lib.hid (stableS (d := d.toArray) c' hRW (by simpa using h32))
        rw [show d.toArray.size = d.length by simp] at HS
        clear hcl hfr hown hRW
        go_wp2_with fail
        refine HS.out.mono ?_
        rintro e w2 ⟨rfl, S, hmg, hR2⟩
        have hSz : S.size = d.length := by rw [hmg.perm.1]; simp
        have HSZ := Lib.hid hSz
        have HMG := Lib.hid hmg
        have HR2 := Lib.hid hR2
        have hb3 := hR2.below
        clear HS hmg hR2 hSz
        go_wp2_with fail
        go_loopw [6] (fun i wr2 => ∃ k2 q : Nat, 1 ≤ k2 ∧ k2 ≤ d.length ∧ i = .int .i64 k2 ∧ wr2 = w2.drewN q ∧ (∀ i, 1 ≤ i → i < k2 → (S[i]!).1 ≠ (S[i - 1]!).1)) (fun i _ => d.length - (intOf i).toNat)
        case atStart => exact ⟨1, 0, by omega, by omega, rfl, rfl, fun i h1 h2 => by omega⟩
        case round =>
          obtain ⟨k2, q, hk1, hk2, rfl, rfl, hdist⟩ := hrel
          have HDI := Lib.hid hdist
          clear hdist
          by_cases hlt2 : k2 < d.length
          · obtain ⟨k3, rfl⟩ : ∃ k3, k2 = k3 + 1 := ⟨k2 - 1, by omega⟩
            have a1 : (w2.drewN q).cell? ⟨g', (k3 + 1) * 2, none⟩ = some (.string ⟨(S[k3 + 1]!).1.toArray⟩) := (HR2.out.cell (k3 + 1) (by rw [HSZ.out]; omega)).1
            have a2 : (w2.drewN q).cell? ⟨g', k3 * 2, none⟩ = some (.string ⟨(S[k3]!).1.toArray⟩) := (HR2.out.cell k3 (by rw [HSZ.out]; omega)).1
            by_cases hne : (S[k3 + 1]!).1 = (S[k3]!).1
            · have HTW := Lib.hid (show Twc S d.length 1 from ⟨k3 + 1, by omega, by omega, hlt2, hne⟩)
              rw [hne] at a1
              clear hne
              generalize (S[k3]!).1 = n2 at *
              generalize hWq : w2.drewN q = W at *
              go_wp2_with fail
              go_quiet (fail)
              go_wp2_with fail
              go_ret2
              exact .inr (.inr ⟨h32, HNB.out, S, HMG.out, .inl ⟨HTW.out, rfl, by rw [← hWq, World.drewN_drewN]; exact below_drewN hb3 _⟩⟩)
            · have HNX := Lib.hid (show ∀ i, 1 ≤ i → i < k3 + 2 → (S[i]!).1 ≠ (S[i - 1]!).1 from fun i h1 h2 => by
                rcases Nat.lt_or_ge i (k3 + 1) with c | c
                · exact HDI.out i h1 c
                · obtain rfl : i = k3 + 1 := by omega
                  exact hne)
              have hbe : ((S[k3 + 1]!).1 == (S[k3]!).1) = false := beq_eq_false_iff_ne.2 hne
              clear hne
              generalize (S[k3 + 1]!).1 = n1 at *
              generalize (S[k3]!).1 = n2 at *
              generalize hWq : w2.drewN q = W at *
              go_wp2_with fail
              go_quiet (fail)
              go_wp2_with fail
              go_roundw
              case rel => exact ⟨k3 + 2, _, by omega, by omega, by go_num, by rw [← hWq, World.drewN_drewN], HNX.out⟩
              case measure => simp [intOf]; omega
          · obtain rfl : k2 = d.length := by omega
            go_wp2_with fail
            go_ret2
            refine .inr (.inr ⟨h32, HNB.out, S, HMG.out, .inr ⟨fun ⟨i, _, h1, h2, h3⟩ => HDI.out i h1 h2 h3, _, rfl, ⟨_, c', by rw [show S.toList.length = d.length from (Array.length_toList).trans HSZ.out]; rfl, fun _ => ⟨g', 0, rfl, by simpa using HR2.out.hi, fun i hi => ?_⟩⟩, below_drewN hb3 q⟩⟩)
            have hi' : i < S.size := by simpa using hi
            obtain ⟨a, b⟩ := HR2.out.cell i hi'
            have e1 : S[i]! = S.toList[i] := by rw [getElem!_pos S i hi', Array.getElem_toList]
            rw [e1] at a b
            rw [Nat.zero_add]
            exact ⟨a, b⟩

end Go.Proofs.YtfdbjgdafolbmaaDoor

/-
  Get of both; the fields that ParseSorts makes.
-/
import Derived.Test.YtfdbjgdafolbmaaDoorSoH
namespace Go.Proofs.YtfdbjgdafolbmaaDoor
open Go.RowKit Go.Sort Go.Shelf

def gv (d : List Fd) (nm : List UInt8) : Option (List UInt8) := match d with | [] => none | x :: d => if x.1 = nm then some x.2 else gv d nm
theorem gv_step {d : List Fd} {k : Nat} (h : k < d.length) (nm : List UInt8) : gv (d.drop k) nm = if (d[k]).1 = nm then some (d[k]).2 else gv (d.drop (k + 1)) nm := by
  rw [List.drop_eq_getElem_cons h, gv]
theorem gv_end (d : List Fd) (nm : List UInt8) : gv (d.drop d.length) nm = none := by rw [List.drop_length, gv]
def GetPost (w : World) (R : Option (List UInt8)) (e : Ending) (w' : World) : Prop := e = .returned (.tuple #[.string ⟨(R.getD []).toArray⟩, .bool R.isSome]) ∧ RowKit.Below w.heap.size w w'

set_option maxHeartbeats 1000000 in
theorem pGet_any (v : Value) (d : List Fd) (nm : List UInt8) (w : World) (hv : FI w v d) (hl : d.length ≤ 1000) :
    Calls Tryd.prog 16 #[v, .string ⟨nm.toArray⟩] w (GetPost w (gv d nm)) := by
  obtain ⟨a, cap, rfl, hc⟩ := hv
  have HC := Lib.hid hc
  obtain ⟨R, hR⟩ : ∃ R, gv d nm = R := ⟨_, rfl⟩
  rw [hR]
  have HR := Lib.hid hR
  clear hc hR
  go_enter Tryd.func16, Tryd.ntmps16
  go_wp2_with fail
  go_loopw [10] (fun i wr => ∃ k : Nat, k ≤ d.length ∧ i = .int .i64 k ∧ RowKit.Below w.heap.size w wr ∧ gv (d.drop k) nm = R) (fun i _ => d.length - (intOf i).toNat)
  case atStart => exact ⟨0, by omega, rfl, Below.refl _ _, HR.out⟩
  case round =>
    obtain ⟨k, hk, rfl, hb, hg⟩ := hrel
    have HG := Lib.hid hg
    clear hg HR
    by_cases hlt : k < d.length
    · obtain ⟨g, off, rfl, hgl, hf⟩ := HC.out (by omega)
      have c0 := (hb.cell (p := ⟨g, off + k * 2, none⟩) hgl).trans (hf k hlt).1
      have c1 := (hb.cell (p := ⟨g, off + k * 2 + 1, none⟩) hgl).trans (hf k hlt).2
      have HST := Lib.hid (gv_step hlt nm)
      have hsz := hb.size
      have hbn : ∀ o, RowKit.Below w.heap.size w (wr.alloc o) := fun o => hb.alloc hsz o
      have HBN := Lib.hid hbn
      have i1 : (k : Int) < (d.length : Int) := by omega
      have i2 : (0 : Int) ≤ (k : Int) := by omega
      clear hf hbn
      generalize d[k] = x at *
      obtain ⟨xn, xv⟩ := x
      by_cases he : xn = nm
      · subst he
        have HZ := Lib.hid (show R = some xv by rw [← HG.out, HST.out, if_pos rfl])
        go_wp2_with fail
        go_ret2
        rw [HZ.out]
        exact ⟨rfl, HBN.out _⟩
      · have b1 : (xn == nm) = false := beq_eq_false_iff_ne.2 he
        have HZ := Lib.hid (show gv (d.drop (k + 1)) nm = R by rw [← HG.out, HST.out, if_neg he])
        clear he
        go_wp2_with fail
        go_roundw
        case rel => exact ⟨k + 1, by omega, by go_num, HBN.out _, HZ.out⟩
        case measure => simp [intOf]; omega
    · obtain rfl : k = d.length := by omega
      have HZ := Lib.hid (show R = none by rw [← HG.out, gv_end])
      go_wp2_with fail
      go_ret2
      rw [HZ.out]
      exact ⟨rfl, hb⟩
set_option maxHeartbeats 1000000 in
theorem rGet_any (v : Value) (d : List Fd) (nm : List UInt8) (w : World) (hv : FI w v d) (hl : d.length ≤ 1000) :
    Calls Tryd.prog 17 #[v, .string ⟨nm.toArray⟩] w (GetPost w (gv d nm)) := by
  obtain ⟨a, cap, rfl, hc⟩ := hv
  have HC := Lib.hid hc
  obtain ⟨R, hR⟩ : ∃ R, gv d nm = R := ⟨_, rfl⟩
  rw [hR]
  have HR := Lib.hid hR
  clear hc hR
  go_enter Tryd.func17, Tryd.ntmps17
  go_wp2_with fail
  go_loop [6] (fun i => ∃ k : Nat, k ≤ d.length ∧ i = .int .i64 k ∧ gv (d.drop k) nm = R) (fun i => d.length - (intOf i).toNat)
  case atStart => exact ⟨0, by omega, rfl, HR.out⟩
  case round =>
    obtain ⟨k, hk, rfl, hg⟩ := hrel
    have HG := Lib.hid hg
    clear hg HR
    by_cases hlt : k < d.length
    · obtain ⟨g, off, rfl, hgl, hf⟩ := HC.out (by omega)
      obtain ⟨c0, c1⟩ := hf k hlt
      have HST := Lib.hid (gv_step hlt nm)
      have i1 : (k : Int) < (d.length : Int) := by omega
      have i2 : (0 : Int) ≤ (k : Int) := by omega
      clear hf
      generalize d[k] = x at *
      obtain ⟨xn, xv⟩ := x
      by_cases he : xn = nm
      · subst he
        have HZ := Lib.hid (show R = some xv by rw [← HG.out, HST.out, if_pos rfl])
        go_wp2_with fail
        go_ret2
        rw [HZ.out]
        exact ⟨rfl, Below.refl _ _⟩
      · have b1 : (xn == nm) = false := beq_eq_false_iff_ne.2 he
        have HZ := Lib.hid (show gv (d.drop (k + 1)) nm = R by rw [← HG.out, HST.out, if_neg he])
        clear he
        go_wp2_with fail
        go_round
        case rel => exact ⟨k + 1, by omega, by go_num, HZ.out⟩
        case measure => simp [intOf]; omega
    · obtain rfl : k = d.length := by omega
      have HZ := Lib.hid (show R = none by rw [← HG.out, gv_end])
      go_wp2_with fail
      go_ret2
      rw [HZ.out]
      exact ⟨rfl, Below.refl _ _⟩

def pickT : List (List UInt8) := [[97], [98], [32], [49], [117, 115, 101, 114], [61], [34], [55], [46], [44], [120, 32, 121], [49, 48, 46, 50], [45], [195, 169], [91], [105, 100], [9], [58]]
theorem pickT_any (g : Nat) (W : World) (hc : CodesAt W g) : Calls Tryd.prog 9 #[.pointer (some ⟨g, 0, none⟩), .slice (some ⟨W.heap.size, 0, none⟩) 18 18] (W.alloc (.cells #[.string ⟨#[97]⟩, .string ⟨#[98]⟩, .string ⟨#[32]⟩, .string ⟨#[49]⟩, .string ⟨#[117, 115, 101, 114]⟩, .string ⟨#[61]⟩, .string ⟨#[34]⟩, .string ⟨#[55]⟩, .string ⟨#[46]⟩, .string ⟨#[44]⟩, .string ⟨#[120, 32, 121]⟩, .string ⟨#[49, 48, 46, 50]⟩, .string ⟨#[45]⟩, .string ⟨#[195, 169]⟩, .string ⟨#[91]⟩, .string ⟨#[105, 100]⟩, .string ⟨#[9]⟩, .string ⟨#[58]⟩] 9)) (PickP g W pickT) :=
  pickF g W pickT hc (by decide) (by decide)
def pickN : List (List UInt8) := [[97], [98], [99], [95], [120, 46, 121], [122, 49]]
theorem pickN_any (g : Nat) (W : World) (hc : CodesAt W g) : Calls Tryd.prog 9 #[.pointer (some ⟨g, 0, none⟩), .slice (some ⟨W.heap.size, 0, none⟩) 6 6] (W.alloc (.cells #[.string ⟨#[97]⟩, .string ⟨#[98]⟩, .string ⟨#[99]⟩, .string ⟨#[95]⟩, .string ⟨#[120, 46, 121]⟩, .string ⟨#[122, 49]⟩] 9)) (PickP g W pickN) :=
  pickF g W pickN hc (by decide) (by decide)
def pickM : List (List UInt8) := [[], [48], [49], [50], [51], [52], [53]]
theorem pickM_any (g : Nat) (W : World) (hc : CodesAt W g) : Calls Tryd.prog 9 #[.pointer (some ⟨g, 0, none⟩), .slice (some ⟨W.heap.size, 0, none⟩) 7 7] (W.alloc (.cells #[.string ⟨#[]⟩, .string ⟨#[48]⟩, .string ⟨#[49]⟩, .string ⟨#[50]⟩, .string ⟨#[51]⟩, .string ⟨#[52]⟩, .string ⟨#[53]⟩] 9)) (PickP g W pickM) :=
  pickF g W pickM hc (by decide) (by decide)
theorem short {fs : List (List UInt8)} {n : Nat} (h : fs.all (fun b => decide (b.length ≤ n)) = true) {x : List UInt8} (hx : x ∈ fs) : x.length ≤ n := by
  have := List.all_eq_true.1 h x hx
  simpa using this
def TextP (g : Nat) (w : World) (e : Ending) (w' : World) : Prop := ∃ x : List UInt8, x.length ≤ 10 ∧ e = .returned (.string ⟨x.toArray⟩) ∧ CodesAt w' g ∧ Apart g w w'
set_option maxRecDepth 100000 in
set_option maxHeartbeats 1000000 in
theorem text1_any (g : Nat) (w : World) (hc : CodesAt w g) : Calls Tryd.prog 14 #[.pointer (some ⟨g, 0, none⟩), .int .i64 1] w (TextP g w) := by
  have HN := Lib.hid (next_any g 2 w hc (by omega) (by omega))
  clear hc
  go_enter Tryd.func14, Tryd.ntmps14
  go_wp2_with (go_at_call 13; refine HN.out.mono ?_)
  rintro e w1 ⟨n, hn, rfl, hca, hap⟩
  have HC1 := Lib.hid hca
  have HA1 := Lib.hid hap
  clear hca hap HN
  go_wp2_with fail
  go_loopw [5, 6] (fun s i wr => ∃ (x : List UInt8) (j : Nat), i = .int .i64 j ∧ j ≤ 1 ∧ s = .string ⟨x.toArray⟩ ∧ x.length + 5 * j ≤ 5 ∧ CodesAt wr g ∧ Apart g w wr) (fun _ i _ => (intOf i).toNat)
  case atStart => exact ⟨[], n, rfl, by omega, rfl, by simp; omega, HC1.out, HA1.out⟩
  case round =>
    obtain ⟨x, j, rfl, hj, rfl, hx, hca, hap⟩ := hrel
    have HC := Lib.hid hca
    have HA := Lib.hid hap
    clear hca hap HC1 HA1
    cases j with
    | zero =>
      go_wp2_with fail
      go_ret
      exact ⟨x, by omega, rfl, HC.out, HA.out⟩
    | succ j =>
      obtain rfl : j = 0 := by omega
      have hxl : x.length ≤ 0 := by omega
      go_wp2_with fail
      refine (pickT_any g wr HC.out).mono ?_
      rintro e w2 ⟨y, hy, rfl, h1, h2⟩
      have hyl := short (fs := pickT) (n := 4) (by decide) hy
      have H1 := Lib.hid h1
      have H2 := Lib.hid (HA.out.trans h2)
      have e1 := ba_app x y
      have E1 := Lib.hid e1
      clear hy h1 h2 e1
      go_wp2_with fail
      refine ⟨⟨x ++ y, 0, rfl, by omega, by rw [E1.out], by simp; omega, H1.out, H2.out⟩, by simp [intOf]⟩

/-- The fields that were made, the list of choices at g. -/
structure LJ (w : World) (g : Nat) (out : List Fd) (v : Value) (W : World) : Prop where
  own : W.ownsRow (g + 1) 30 2 v out.length (cellsF out)
  below : RowKit.Below w.heap.size w W
  codes : CodesAt W g
  nms : ∀ x ∈ out, x.1.length ≤ 100
theorem LJ.apart {w W W' : World} {g : Nat} {out : List Fd} {v : Value} (h : LJ w g out v W) (hg : w.heap.size ≤ g) (ha : Apart g W W') (hc : CodesAt W' g) : LJ w g out v W' :=
  ⟨own_keep h.own fun k h1 hk => ha.block (by omega) hk, Apart.below h.below ha hg, hc, h.nms⟩
theorem LJ.push {w W W' : World} {g : Nat} {out : List Fd} {v v' : Value} {o : Obj} (h : LJ w g out v W) (hg : w.heap.size ≤ g) (x : Fd) (hx : x.1.length ≤ 100) (ho : W'.ownsRow (g + 1) 30 2 v' (out.length + 1) (cellsF out ++ encF x)) (hgr : (W.alloc o).grownBy W' v.ownBlock) : LJ w g (out ++ [x]) v' W' := by
  have hB : RowKit.Below (g + 1) W W' := ((Below.refl _ W).alloc h.codes.1 _).grown hgr (by have := h.codes.1; simp; omega) (fun k hk => (h.own.lt k hk).1)
  refine ⟨?_, h.below.trans (hB.mono (by omega)), h.codes.of_below (Nat.lt_succ_self _) hB, fun y hy => ?_⟩
  · have e : cellsF (out ++ [x]) = cellsF out ++ encF x := by simp [cellsF]
    rw [e, List.length_append]
    exact ho
  · rcases List.mem_append.1 hy with h' | h'
    · exact h.nms y h'
    · simp at h'; subst h'; exact hx

end Go.Proofs.YtfdbjgdafolbmaaDoor

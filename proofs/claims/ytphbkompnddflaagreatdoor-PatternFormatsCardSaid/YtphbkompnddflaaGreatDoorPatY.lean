/-
  The parser: what sees and takes a byte.
-/
import Derived.Test.YtphbkompnddflaaGreatDoorPatX
namespace Go.Proofs.YtphbkompnddflaaGreatDoor
open Go.RowKit

set_option maxHeartbeats 4000000 in
set_option maxRecDepth 1000000 in
theorem psees_yes (b : Nat) (l : List UInt8) (at_ : Nat) (w : World) (h : PS b l at_ w) (c : Nat) (hc : Asc.at_ l at_ = c) (hc2 : c < 256) : Calls Tryz.prog 63 #[.pointer (some ⟨b, 0, none⟩), .int .u8 (c : Int)] w fun r w' => r = .returned (.bool true) ∧ PQ b l at_ w w' := by
  have HN := Lib.hid (pnext_ok b l at_ w h c hc hc2)
  clear h hc
  go_enter Tryz.func63, Tryz.ntmps63
  go_wp2_with (go_at_call 61; refine HN.out.mono ?_; rintro e w1 ⟨rfl, hq⟩; have HQ := Lib.hid hq; clear hq)
  go_ret
  exact ⟨rfl, HQ.out⟩
set_option maxHeartbeats 4000000 in
set_option maxRecDepth 1000000 in
theorem psees_no (b : Nat) (l : List UInt8) (at_ : Nat) (w : World) (h : PS b l at_ w) (c : Nat) (hc : Asc.at_ l at_ ≠ c) : Calls Tryz.prog 63 #[.pointer (some ⟨b, 0, none⟩), .int .u8 (c : Int)] w fun r w' => r = .returned (.bool false) ∧ PQ b l at_ w w' := by
  by_cases hl : at_ < l.length
  · obtain ⟨v, hv⟩ : ∃ v, Asc.at_ l at_ = v := ⟨_, rfl⟩
    have HN := Lib.hid (pnext_ok b l at_ w h v hv (by have := Asc.at_le hl; omega))
    have z1 : ((v : Int) == (c : Int)) = false := by rw [beq_eq_false_iff_ne]; omega
    clear h hc hv hl
    go_enter Tryz.func63, Tryz.ntmps63
    go_wp2_with (go_at_call 61; refine HN.out.mono ?_; rintro e w1 ⟨rfl, hq⟩; have HQ := Lib.hid hq; clear hq)
    go_ret
    exact ⟨rfl, HQ.out⟩
  · have HN := Lib.hid (pnext_end b l at_ w h (by omega))
    clear h hc hl
    go_enter Tryz.func63, Tryz.ntmps63
    go_wp2_with (go_at_call 61; refine HN.out.mono ?_; rintro e w1 ⟨rfl, hq⟩; have HQ := Lib.hid hq; clear hq)
    go_ret
    exact ⟨rfl, HQ.out⟩
set_option maxHeartbeats 4000000 in
set_option maxRecDepth 1000000 in
theorem ptakes_no (b : Nat) (l : List UInt8) (at_ : Nat) (w : World) (h : PS b l at_ w) (c : Nat) (hc : Asc.at_ l at_ ≠ c) : Calls Tryz.prog 45 #[.pointer (some ⟨b, 0, none⟩), .int .u8 (c : Int)] w fun r w' => r = .returned (.bool false) ∧ PQ b l at_ w w' := by
  have HN := Lib.hid (psees_no b l at_ w h c hc)
  clear h hc
  go_enter Tryz.func45, Tryz.ntmps45
  go_wp2_with (go_at_call 63; refine HN.out.mono ?_; rintro e w1 ⟨rfl, hq⟩; have HQ := Lib.hid hq; clear hq)
  go_ret
  exact ⟨rfl, HQ.out⟩
set_option maxHeartbeats 4000000 in
set_option maxRecDepth 1000000 in
theorem ptakes_yes (b : Nat) (l : List UInt8) (at_ : Nat) (w : World) (h : PS b l at_ w) (c : Nat) (hc : Asc.at_ l at_ = c) (hc2 : c < 256) : Calls Tryz.prog 45 #[.pointer (some ⟨b, 0, none⟩), .int .u8 (c : Int)] w fun r w' => r = .returned (.bool true) ∧ PQ b l (at_ + 1) w w' := by
  have HN := Lib.hid (psees_yes b l at_ w h c hc hc2)
  have hl : at_ < l.length := Asc.at_lt (by omega)
  have hl2 := h.len
  have hw : IntKind.i64.wrap ((at_ : Int) + 1) = (at_ : Int) + 1 := IntWalk.i64_in _ (by omega)
  have HL := Lib.hid hl
  clear h hc hl
  go_enter Tryz.func45, Tryz.ntmps45
  go_wp2_with (go_at_call 63; refine HN.out.mono ?_; rintro e w1 ⟨rfl, hq⟩; have HQ := Lib.hid hq; have c1 := hq.ps.c1; have f1 := hq.ps.st.fz 1; clear hq)
  go_ret
  exact ⟨rfl, HQ.out.trans (HQ.out.ps.to (at_ + 1) HL.out)⟩
set_option maxHeartbeats 4000000 in
set_option maxRecDepth 1000000 in
theorem pexpect_yes (b : Nat) (l : List UInt8) (at_ : Nat) (w : World) (h : PS b l at_ w) (c : Nat) (hc : Asc.at_ l at_ = c) (hc2 : c < 256) : Calls Tryz.prog 85 #[.pointer (some ⟨b, 0, none⟩), .int .u8 (c : Int)] w fun r w' => r = .returned (.tuple #[]) ∧ PQ b l (at_ + 1) w w' := by
  have HN := Lib.hid (ptakes_yes b l at_ w h c hc hc2)
  clear h hc
  go_enter Tryz.func85, Tryz.ntmps85
  go_wp2_with (go_at_call 45; refine HN.out.mono ?_; rintro e w1 ⟨rfl, hq⟩; have HQ := Lib.hid hq; clear hq)
  go_end0
  exact ⟨rfl, HQ.out⟩

/-- The node of a list. -/
def joinT (op : Int) (ts : List NT) : NT := match ts with
  | [] => .node 0 [] [] [] 0 0
  | [t] => t
  | t :: u :: r => .node op [] [] (t :: u :: r) 0 0
/-- A node just made, in blocks from B on. -/
def NB (B : Nat) (t : NT) (w : World) (e : Ending) (w' : World) : Prop := ∃ v, e = .returned v ∧ NG (fun k => B ≤ k) w' t v ∧ Below w.heap.size w w'
/-- The end of a call whose result's block is new: the node is handed back. -/
theorem new_ret {fn : Func} {P : Tmp} (hfn : fn.results = #[.cell P 25]) {w : World} {v0 v1 v2 v3 v4 v5 : Value} {ty : TypeId} {tmps : Array Value} {df : _} (hdf : df = []) (hp : tmps.getD P undef = .pointer (some ⟨w.heap.size, 0, none⟩)) {post : Ending → World → Prop}
    (h : post (.returned (.agg #[v0, v1, v2, v3, v4, v5])) (w.alloc (.cells #[v0, v1, v2, v3, v4, v5] ty))) :
    bodyPost Tryz.prog fn post Exit.ret { tmps := tmps, defers := df } (w.alloc (.cells #[v0, v1, v2, v3, v4, v5] ty)) :=
  bodyPost_ret (results_cell_row hfn tmps _ w.heap.size ty #[v0, v1, v2, v3, v4, v5] (0, 0) _ hp (heap_alloc_new w _) Tryz.underlying25 rfl (by kernel_rfl)) hdf h
theorem al_below (w : World) (o : Obj) : Below w.heap.size w (w.alloc o) := (Below.refl _ w).alloc (Nat.le_refl _) o
theorem al_stay {B : Nat} (w : World) (o : Obj) : Stay (fun k => B ≤ k) (fun k => B ≤ k) w (w.alloc o) := ⟨(al_below w o).size, fun k hk hl => ⟨hk, (al_below w o).block k hl⟩⟩
set_option maxHeartbeats 8000000 in
set_option maxRecDepth 1000000 in
theorem join_any (op : Int) (ts : List NT) (v : Value) (w : World) (B : Nat) (h : RW (fun k => B ≤ k) 6 (KR (fun k => B ≤ k) w) w ts v) : Calls Tryz.prog 46 #[.int .i64 op, v] w (NB B (joinT op ts) w) := by
  have H := Lib.hid h
  obtain ⟨a, c, rfl, hm, hk⟩ := h
  have HK := Lib.hid hk
  clear hk
  match ts, H, HK, hm with
  | [], H, HK, hm =>
    clear hm
    go_enter Tryz.func46, Tryz.ntmps46
    go_wp2_with fail
    refine new_ret (P := 4) rfl rfl (by rfl) ⟨_, rfl, ?_, al_below w _⟩
    exact NG.node (rs := []) (kids := []) RW.nil RW.nil 0 [] 0 0 (by simp)
  | [t], H, HK, hm =>
    obtain ⟨blk, off, rfl, hl, hF, hc⟩ := HK.out (by simp)
    obtain ⟨us, hu, hcell, hr⟩ := hc 0 (by simp)
    have HR := Lib.hid hr
    obtain ⟨op', rs, nm, kids, mn, mx, ra, rc, a', c', ht, ev, _⟩ := NG.open hr
    have eu : us = [.int .i64 op', .slice ra rs.length rc, .string ⟨nm.toArray⟩, .slice a' kids.length c', .int .i64 mn, .int .i64 mx] := by
      injection ev with ev
      have := congrArg Array.toList ev
      simpa using this
    subst eu
    have hal : ∀ j, (w.alloc (.cells #[.int .i64 0, .slice none 0 0, .string ⟨#[]⟩, .slice none 0 0, .int .i64 0, .int .i64 0] 25)).cell? ⟨blk, j, none⟩ = w.cell? ⟨blk, j, none⟩ := fun j => (al_below w _).cell (p := ⟨blk, j, none⟩) hl
    have e0 := (hal _).trans ((hcell 0 (by simp)).trans (show _ = some (Value.int .i64 op') from rfl))
    have e1 := (hal _).trans ((hcell 1 (by simp)).trans (show _ = some (Value.slice ra rs.length rc) from rfl))
    have e2 := (hal _).trans ((hcell 2 (by simp)).trans (show _ = some (Value.string ⟨nm.toArray⟩) from rfl))
    have e3 := (hal _).trans ((hcell 3 (by simp)).trans (show _ = some (Value.slice a' kids.length c') from rfl))
    have e4 := (hal _).trans ((hcell 4 (by simp)).trans (show _ = some (Value.int .i64 mn) from rfl))
    have e5 := (hal _).trans ((hcell 5 (by simp)).trans (show _ = some (Value.int .i64 mx) from rfl))
    clear hm hal hcell hc hr hF ev ht
    simp only [Nat.zero_mul, Nat.add_zero] at e0 e1 e2 e3 e4 e5
    go_enter Tryz.func46, Tryz.ntmps46
    go_wp2_with fail
    exact new_ret (P := 4) rfl rfl (by rfl) ⟨_, rfl, NG.go (al_stay w _) _ _ HR.out, al_below w _⟩
  | t :: u :: r, H, HK, hm =>
    obtain ⟨n, hn⟩ : ∃ n, (t :: u :: r).length = n := ⟨_, rfl⟩
    have hn2 : 2 ≤ n := by rw [← hn]; simp
    have z0 : ((n : Int) == 0) = false := by rw [beq_eq_false_iff_ne]; omega
    have z1 : ((n : Int) == 1) = false := by rw [beq_eq_false_iff_ne]; omega
    rw [hn] at H ⊢
    clear hm hn HK
    go_enter Tryz.func46, Tryz.ntmps46
    go_wp2_with fail
    refine new_ret (P := 4) rfl rfl (by rfl) ⟨_, rfl, ?_, al_below w _⟩
    exact NG.node (rs := []) (kids := t :: u :: r) RW.nil (H.out.go (al_stay w _) (fun _ _ h => KR.go (al_stay w _) _ _ h)) op [] 0 0 (by simp)
end Go.Proofs.YtphbkompnddflaaGreatDoor

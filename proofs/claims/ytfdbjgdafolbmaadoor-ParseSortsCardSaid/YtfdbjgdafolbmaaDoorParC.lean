/-
  Delimited of package parse, where the fields are right.
-/
import Derived.Test.YtfdbjgdafolbmaaDoorParB
namespace Go.Proofs.YtfdbjgdafolbmaaDoor
open Go.RowKit

structure DI (w : World) (out : List (List UInt8)) (v : Value) (W : World) : Prop where
  own : W.ownsRow w.heap.size 9 1 v out.length (strCellsL out)
  below : Below w.heap.size w W
theorem DI.push {w : World} {out : List (List UInt8)} {v v' : Value} {W W' : World} {o : Obj} (h : DI w out v W) (x : List UInt8) (ho : W'.ownsRow w.heap.size 9 1 v' (out.length + 1) (strCellsL out ++ [.string ⟨x.toArray⟩])) (hg : (W.alloc o).grownBy W' v.ownBlock) : DI w (out ++ [x]) v' W' := by
  refine ⟨?_, own_step h.below h.own hg⟩
  have e : strCellsL (out ++ [x]) = strCellsL out ++ [.string ⟨x.toArray⟩] := by simp [strCellsL]
  rw [e, List.length_append]
  exact ho
theorem DI.nil (w : World) : DI w [] (.slice none 0 0) w := ⟨⟨rfl, .inl ⟨rfl, rfl⟩⟩, Below.refl _ _⟩
theorem DI.later {w : World} {out : List (List UInt8)} {v : Value} {W W' : World} (h : DI w out v W) (hb : Below W.heap.size W W') : DI w out v W' := by
  refine ⟨?_, h.below.trans (hb.mono h.below.size)⟩
  obtain ⟨h1, h2⟩ := h.own
  refine ⟨h1, h2.imp id ?_⟩
  rintro ⟨g, cap, cur, rfl, hB, hg, rest⟩
  refine ⟨g, cap, cur, rfl, hB, ?_, rest⟩
  rw [hb.block g ?_]
  · exact hg
  · rcases Nat.lt_or_ge g W.heap.size with c | c
    · exact c
    · rw [Array.getElem?_eq_none c] at hg; cases hg
theorem own_form {W : World} {B : Nat} {e : TypeId} {v : Value} {n : Nat} {xs : List Value} (h : W.ownsRow B e 1 v n xs) : ∃ a c, v = .slice a n c := by
  obtain ⟨_, ⟨rfl, h0⟩ | ⟨g, cap, cur, rfl, _⟩⟩ := h
  · exact ⟨none, 0, by rw [h0]⟩
  · exact ⟨_, _, rfl⟩
def strOf : Value → List UInt8 | .string s => s.data.toList | _ => []

set_option maxRecDepth 100000 in
set_option maxHeartbeats 4000000 in
theorem delimited_right (l : List UInt8) (sep : UInt8) (fs : List (List UInt8)) (w : World) (hs : l.length ≤ 1000000) (h1 : sep ≠ 34) (h2 : sep ≠ 10) (h3 : sep ≠ 13) (hr : Asc.delimd l sep = some fs) (hf : fs.length ≤ 32) :
    Calls Tryd.prog 18 #[.string ⟨l.toArray⟩, .int .u8 sep.toNat] w fun e w' =>
      ∃ v, e = .returned (.tuple #[v, .int .i64 0]) ∧ SS w' v fs ∧ Below w.heap.size w w' := by
  have ne : ∀ n : Nat, n < 256 → sep ≠ UInt8.ofNat n → ((sep.toNat : Int) == (n : Int)) = false := fun n hn h => by
    rw [beq_eq_false_iff_ne]
    intro e
    apply h
    apply UInt8.toNat_inj.1
    rw [Asc.ofNat_toNat8 hn]
    exact_mod_cast e
  have t1 : ((sep.toNat : Int) == 34) = false := ne 34 (by omega) h1
  have t2 : ((sep.toNat : Int) == 10) = false := ne 10 (by omega) h2
  have t3 : ((sep.toNat : Int) == 13) = false := ne 13 (by omega) h3
  have HR := Lib.hid hr
  have HF := Lib.hid hf
  clear ne h1 h2 h3 hr hf
  go_enter Tryd.func18, Tryd.ntmps18
  go_wp2_with fail
  go_loopw [0, 6] (fun s v wr => ∃ cur out, s = .string ⟨(cur : List UInt8).toArray⟩ ∧ cur.length ≤ 1000000 ∧ (Asc.delimd cur sep).map (out ++ ·) = some fs ∧ out.length + cur.length ≤ 1000000 ∧ DI w out v wr) (fun s _ _ => (strOf s).length)
  case atStart => exact ⟨l, [], rfl, hs, by rw [HR.out]; rfl, by simpa using hs, DI.nil w⟩
  case round =>
    obtain ⟨cur, out, rfl, hcl, hd, hol, hI⟩ := hrel
    have HD := Lib.hid (delim_any cur sep wr (by omega))
    rw [Asc.delimd_step] at hd
    cases hb : Asc.dlB cur sep
    · rw [hb] at hd
      simp at hd
    · rw [hb] at HD hd
      simp only [if_true] at hd
      have hrl := Asc.dlR_le cur sep
      generalize Asc.dlV cur sep = v at *
      generalize Asc.dlR cur sep = r at *
      have HI := Lib.hid hI
      clear hI hb
      cases r with
      | nil =>
        rw [if_pos rfl] at hd
        have hfs : out ++ [v] = fs := Option.some.inj hd
        have H2 := Lib.hid hfs
        have hfl : out.length + 1 ≤ 32 := by have h := HF.out; rw [← hfs, List.length_append] at h; exact h
        clear hfs
        have q1 : out.length + 1 ≤ 140737488355328 := by omega
        have q2 : (out.length + 1) * 16 ≤ 140737488355328 := by omega
        clear hd
        go_wp2_with (first | (go_at_call 31; refine HD.out.mono ?_; rintro e w1 ⟨rfl, hb1⟩; have h3 := HI.out.later hb1; have hown := h3.own; have hsz := h3.below.size) | (at_builtin; refine wpList_append_1 rfl _ _ 23 9 (.string ⟨#[]⟩) 16 rfl Tryd.underlying23 infoStr rfl w.heap.size _ _ _ rfl hown (.string ⟨v.toArray⟩) rfl rfl q1 q2 hsz ?_; intro v' w2 hown' hgrow; have HX := Lib.hid (h3.push v hown' hgrow); obtain ⟨a2, c2, hv2⟩ := own_form hown'; subst hv2; clear hown hown' hgrow h3))
        go_ret2
        refine ⟨_, rfl, ?_, HX.out.below⟩
        rw [← H2.out]
        exact ss_own HX.out.own
      | cons x r =>
        rw [if_neg (by simp), List.tail_cons] at hd
        have H2 := Lib.hid hd
        have q1 : out.length + 1 ≤ 140737488355328 := by omega
        have q2 : (out.length + 1) * 16 ≤ 140737488355328 := by omega
        have e2 := ext_tail x r
        have hrl2 : r.length + 1 ≤ cur.length := by simpa using hrl
        clear hd hrl
        go_wp2_with (first | (go_at_call 31; refine HD.out.mono ?_; rintro e w1 ⟨rfl, hb1⟩; have h3 := HI.out.later hb1; have hown := h3.own; have hsz := h3.below.size) | (at_builtin; refine wpList_append_1 rfl _ _ 23 9 (.string ⟨#[]⟩) 16 rfl Tryd.underlying23 infoStr rfl w.heap.size _ _ _ rfl hown (.string ⟨v.toArray⟩) rfl rfl q1 q2 hsz ?_; intro v' w2 hown' hgrow; have HX := Lib.hid (h3.push v hown' hgrow); obtain ⟨a2, c2, hv2⟩ := own_form hown'; subst hv2; clear hown hown' hgrow h3))
        go_roundw
        case rel => exact ⟨r, out ++ [v], rfl, by omega, by
          have h := H2.out
          rw [← h]
          cases Asc.delimd r sep with
          | none => rfl
          | some y => simp, by simp; omega, HX.out⟩
        case measure => simp [strOf]; omega

end Go.Proofs.YtfdbjgdafolbmaaDoor

/-
  quoted and delimited of package parse.
-/
import Derived.Test.YtfdbjgdafolbmaaDoorParMath
import Derived.Test.YtfdbjgdafolbmaaDoorMem
import Derived.Test.YtfdbjgdafolbmaaDoorShelf
import Derived.Outline
namespace Go.Proofs.YtfdbjgdafolbmaaDoor
open Go.RowKit

theorem i64_add2 (k : Nat) : Value.int .i64 ((k : Int) + 1 + 1) = .int .i64 ((k + 2 : Nat) : Int) := rfl
theorem ret_ssb {a b c d : List UInt8} {e f : Bool} (h1 : a = b) (h2 : c = d) (h3 : e = f) : Ending.returned (.tuple #[.string ⟨a.toArray⟩, .string ⟨c.toArray⟩, .bool e]) = .returned (.tuple #[.string ⟨b.toArray⟩, .string ⟨d.toArray⟩, .bool f]) := by rw [h1, h2, h3]

/-- What the loops keep. -/
structure QI (w : World) (out : List UInt8) (v : Value) (W : World) : Prop where
  own : W.ownsRow w.heap.size 5 1 v out.length (Lib.byteCells out)
  below : Below w.heap.size w W
theorem QI.push {w : World} {out : List UInt8} {v v' : Value} {W W' : World} {o : Obj} (h : QI w out v W) (c : UInt8) (ho : W'.ownsRow w.heap.size 5 1 v' (out.length + 1) (Lib.byteCells out ++ [.int .u8 (c.toNat : Int)])) (hg : (W.alloc o).grownBy W' v.ownBlock) : QI w (out ++ [c]) v' W' := by
  refine ⟨?_, own_step h.below h.own hg⟩
  have e : Lib.byteCells (out ++ [c]) = Lib.byteCells out ++ [.int .u8 (c.toNat : Int)] := by simp [Lib.byteCells]
  rw [e, List.length_append]
  exact ho
theorem QI.nil (w : World) : QI w [] (.slice none 0 0) w := ⟨⟨rfl, .inl ⟨rfl, rfl⟩⟩, Below.refl _ _⟩

set_option maxRecDepth 100000 in
set_option maxHeartbeats 4000000 in
theorem quoted_any (l : List UInt8) (w : World) (hs : l.length ≤ 100000000) (h0 : 0 < l.length) :
    Calls Tryd.prog 43 #[.string ⟨l.toArray⟩] w fun e w' =>
      e = .returned (.tuple #[.string ⟨(Asc.vOf (Asc.qd (l.drop 1) [])).toArray⟩, .string ⟨(Asc.rOf (Asc.qd (l.drop 1) [])).toArray⟩, .bool (Asc.qd (l.drop 1) []).isSome]) ∧ Below w.heap.size w w' := by
  obtain ⟨R, hR⟩ : ∃ R, Asc.qd (l.drop 1) [] = R := ⟨_, rfl⟩
  rw [hR]
  have HR := Lib.hid hR
  clear hR
  go_enter Tryd.func43, Tryd.ntmps43
  go_wp2_with fail
  go_loopw [5, 6] (fun v i wr => ∃ k out, 1 ≤ k ∧ k ≤ l.length ∧ out.length ≤ k ∧ i = .int .i64 (k : Nat) ∧ Asc.qd (l.drop k) out = R ∧ QI w out v wr) (fun _ i _ => l.length - (intOf i).toNat)
  case atStart => exact ⟨1, [], by omega, by omega, by simp, rfl, HR.out, QI.nil w⟩
  case round =>
    obtain ⟨k, out, hk1, hk, hol, rfl, hq, hI⟩ := hrel
    have HI := Lib.hid hI
    have HQ := Lib.hid hq
    have hown := hI.own
    have hsz := hI.below.size
    have q1 : out.length + 1 ≤ 140737488355328 := by omega
    have q2 : (out.length + 1) * 1 ≤ 140737488355328 := by omega
    clear hI hq
    by_cases hlt : k < l.length
    · obtain ⟨c, ⟨_, hx⟩, hc, hc2⟩ := byte_at l k hlt
      have HC := Lib.hid hc
      clear hc
      by_cases e34 : c = 34
      · subst e34
        have hq := HQ.out
        rw [Asc.qd_q hlt (UInt8.toNat_inj.1 HC.out)] at hq
        have hcv : ∀ q, (convert 22 9 u5).run Tryd.prog (wr.drewN q) = .ok (.string ⟨out.toArray⟩) (wr.drewN q) := fun q => conv_own (w := wr.drewN q) hown
        have HF := Lib.hid hq
        have b1 : (0 : Int) ≤ (k : Int) + 1 := by omega
        have b2 : (k : Int) + 1 ≤ (l.length : Int) := by omega
        have b3 : IntKind.i64.wrap ((k : Int) + 1) = (k : Int) + 1 := IntWalk.i64_in _ ⟨by omega, by omega⟩
        have b4 : ((k : Int) + 1).toNat = k + 1 := by omega
        clear hq
        go_wp2_with fail
        go_quiet (fail)
        go_wp2_with fail
        go_ret3
        refine ⟨?_, below_drewN HI.out.below nq⟩
        rw [← HF.out, ext_drop]
        rfl
      · have r34 : ((c : Int) == 34) = false := by rw [beq_eq_false_iff_ne]; omega
        have n34 : l[k] ≠ 34 := fun e => e34 (by rw [← HC.out, e]; rfl)
        by_cases e92 : c = 92
        · subst e92
          have h92 : l[k] = 92 := UInt8.toNat_inj.1 HC.out
          rcases Nat.lt_or_ge (k + 1) l.length with hl2 | hl2
          · obtain ⟨d, ⟨_, hy⟩, hd, hd2⟩ := byte_at l (k + 1) hl2
            have HD := Lib.hid hd
            clear hd
            by_cases ok : d = 34 ∨ d = 92
            · have hq := HQ.out
              rw [Asc.qd_b hl2 h92 (ok.elim (fun e => .inl (UInt8.toNat_inj.1 (HD.out.trans e))) (fun e => .inr (UInt8.toNat_inj.1 (HD.out.trans e))))] at hq
              have HF := Lib.hid hq
              have HP := Lib.hid fun v' W' o => HI.out.push (v' := v') (W' := W') (o := o) l[k + 1]
              rw [HD.out] at HP
              clear hq h92 n34
              rcases ok with rfl | rfl
              · go_wp2_with (at_builtin; refine wpList_append_1 rfl _ _ 22 5 (.int .u8 0) 1 rfl Tryd.underlying22 info5 rfl w.heap.size _ _ _ rfl hown (.int .u8 (34 : Int)) rfl rfl q1 q2 hsz ?_; intro v' w2 hown' hgrow)
                have HX := Lib.hid (HP.out v' w2 _ hown' hgrow)
                clear hown hown' hgrow
                go_wp2_with fail
                go_roundw
                case rel => exact ⟨k + 2, out ++ [l[k + 1]], by omega, by omega, by simp; omega, i64_add2 k, HF.out, HX.out⟩
                case measure => simp [intOf]; omega
              · go_wp2_with (at_builtin; refine wpList_append_1 rfl _ _ 22 5 (.int .u8 0) 1 rfl Tryd.underlying22 info5 rfl w.heap.size _ _ _ rfl hown (.int .u8 (92 : Int)) rfl rfl q1 q2 hsz ?_; intro v' w2 hown' hgrow)
                have HX := Lib.hid (HP.out v' w2 _ hown' hgrow)
                clear hown hown' hgrow
                go_wp2_with fail
                go_roundw
                case rel => exact ⟨k + 2, out ++ [l[k + 1]], by omega, by omega, by simp; omega, i64_add2 k, HF.out, HX.out⟩
                case measure => simp [intOf]; omega
            · have hq := HQ.out
              rw [Asc.qd_n hlt h92 (fun _ e => ok (e.elim (fun e => .inl (by rw [← HD.out, e]; rfl)) (fun e => .inr (by rw [← HD.out, e]; rfl))))] at hq
              have HF := Lib.hid hq
              have d1 : ((d : Int) == 34) = false := by rw [beq_eq_false_iff_ne]; omega
              have d2 : ((d : Int) == 92) = false := by rw [beq_eq_false_iff_ne]; omega
              have d3 : ((d : Int) != 34) = true := by rw [bne_iff_ne]; omega
              have d4 : ((d : Int) != 92) = true := by rw [bne_iff_ne]; omega
              clear hq h92 n34 ok
              go_wp2_with fail
              go_ret3
              exact ⟨by rw [← HF.out]; rfl, HI.out.below⟩
          · have hq := HQ.out
            rw [Asc.qd_n hlt h92 (fun h => by omega)] at hq
            have HF := Lib.hid hq
            have hge : (l.length : Int) ≤ (k : Int) + 1 := by omega
            clear hq h92 n34
            go_wp2_with fail
            go_ret3
            exact ⟨by rw [← HF.out]; rfl, HI.out.below⟩
        · have r92 : ((c : Int) == 92) = false := by rw [beq_eq_false_iff_ne]; omega
          have hq := HQ.out
          rw [Asc.qd_o hlt n34 (fun e => e92 (by rw [← HC.out, e]; rfl))] at hq
          have HF := Lib.hid hq
          have HP := Lib.hid fun v' W' o => HI.out.push (v' := v') (W' := W') (o := o) l[k]
          rw [HC.out] at HP
          clear hq n34 e34 e92
          go_wp2_with (at_builtin; refine wpList_append_1 rfl _ _ 22 5 (.int .u8 0) 1 rfl Tryd.underlying22 info5 rfl w.heap.size _ _ _ rfl hown (.int .u8 (c : Int)) rfl rfl q1 q2 hsz ?_; intro v' w2 hown' hgrow)
          have HX := Lib.hid (HP.out v' w2 _ hown' hgrow)
          clear hown hown' hgrow
          go_wp2_with fail
          go_roundw
          case rel => exact ⟨k + 1, out ++ [l[k]], by omega, by omega, by simp; omega, i64_succ k, HF.out, HX.out⟩
          case measure => simp [intOf]; omega
    · obtain rfl : k = l.length := by omega
      have hq := HQ.out
      rw [Asc.qd_end] at hq
      have HF := Lib.hid hq
      clear hq
      go_wp2_with fail
      go_ret3
      exact ⟨by rw [← HF.out]; rfl, HI.out.below⟩

end Go.Proofs.YtfdbjgdafolbmaaDoor

/-
  The decoder: value in any state; what one round of object's loop does, plainly.
-/
import Derived.Test.YtfdbjgdafolbmaaDoorJsG
namespace Go.Proofs.YtfdbjgdafolbmaaDoor
open Go.RowKit Go.Sort Go.Shelf

set_option maxRecDepth 100000 in
theorem value_obj {w0 W : World} {g : Nat} {s nm r : List UInt8} {fs : List Fd} {dp : Int} (ob : List UInt8 → List UInt8 → Js.Res) (h : DOK w0 g s r fs W) (hs : s.length ≤ 1000) (hb : (Js.blk r).head? = some 123) (hn : nm.length ≤ 100000) (d0 : 0 ≤ dp) (d1 : dp ≤ 100)
    (HO : ∀ W', DOK w0 g s (Js.blk r) fs W' → Calls Tryd.prog 32 #[.pointer (some ⟨g, 0, none⟩), .string ⟨(nm ++ [46]).toArray⟩, .int .i64 (dp + 1)] W' fun e w' => e = .returned (.tuple #[]) ∧ St w0 g s 1 (Js.resS fs (ob (nm ++ [46]) (Js.blk r))) w') :
    Calls Tryd.prog 53 #[.pointer (some ⟨g, 0, none⟩), .string ⟨nm.toArray⟩, .int .i64 dp] W fun e w' => e = .returned (.tuple #[]) ∧ St w0 g s 1 (Js.resS fs (Js.val ob nm r)) w' := by
  have HB := Lib.hid (blanksOK h hs)
  have hv : Js.val ob nm r = ob (nm ++ [46]) (Js.blk r) := by
    unfold Js.val
    revert hb
    cases Js.blk r with
    | nil => intro h; cases h
    | cons c q => intro h; injection h with h; subst h; rfl
  rw [hv]
  obtain ⟨q, hq⟩ : ∃ q, Js.blk r = q := ⟨_, rfl⟩
  rw [hq] at HB HO hb ⊢
  have hh : hd [123] q = true := by
    revert hb
    cases q with
    | nil => intro h; cases h
    | cons c t => intro h; injection h with h; simp [hd, h]
  have HS := Lib.hid fun W h => sees_ok (w0 := w0) (g := g) (s := s) (r := q) (fs := fs) (W := W) h [123] true hh
  have HC := Lib.hid HO
  generalize ob (nm ++ [46]) q = R at *
  have hcat := ba_app nm [46]
  have HCAT := Lib.hid hcat
  clear h hb hh hq HO hv hcat
  go_enter Tryd.func53, Tryd.ntmps53
  go_wp2_with (go_at_call 33; refine HB.out.mono ?_)
  rintro e w1 ⟨rfl, h1⟩
  have H1 := Lib.hid h1
  clear h1 HB
  go_wp2_with fail
  refine (HS.out w1 H1.out).mono ?_
  rintro e w2 ⟨rfl, h2⟩
  have H2 := Lib.hid h2
  clear h2 H1
  go_wp2_with fail
  have e1 : (ByteArray.mk nm.toArray) ++ (ByteArray.mk #[46]) = ByteArray.mk (nm ++ [46]).toArray := HCAT.out
  rw [e1]
  refine (HC.out w2 H2.out).mono ?_
  rintro e w3 ⟨rfl, h3⟩
  have H3 := Lib.hid h3
  clear h3 H2 e1
  go_wp2_with fail
  refine bodyPost_ret (results_none rfl _ _ _) rfl ?_
  exact ⟨rfl, H3.out⟩

theorem value_st {w0 W : World} {g : Nat} {s nm : List UInt8} {x : Js.State} {dp : Int} (ob : List UInt8 → List UInt8 → Js.Res) (h : St w0 g s 0 x W) (hs : s.length ≤ 1000) (hn : nm.length ≤ 100000) (d0 : 0 ≤ dp) (d1 : dp ≤ 100)
    (HO : ∀ q fs W', DOK w0 g s q fs W' → Calls Tryd.prog 32 #[.pointer (some ⟨g, 0, none⟩), .string ⟨(nm ++ [46]).toArray⟩, .int .i64 (dp + 1)] W' fun e w' => e = .returned (.tuple #[]) ∧ St w0 g s 1 (Js.resS fs (ob (nm ++ [46]) q)) w') :
    Calls Tryd.prog 53 #[.pointer (some ⟨g, 0, none⟩), .string ⟨nm.toArray⟩, .int .i64 dp] W fun e w' => e = .returned (.tuple #[]) ∧ St w0 g s 1 (Js.valS ob nm x) w' := by
  cases x with
  | er c => exact value_er h hs
  | ok r fs =>
    by_cases hb : (Js.blk r).head? = some 123
    · exact value_obj ob h hs hb hn d0 d1 (fun W' h' => HO _ _ W' h')
    · have := value_3 (nm := nm) (dp := dp) h hs hb
      rw [← val_pick ob nm r hb] at this
      exact this

namespace Js
theorem val_len {ob : List UInt8 → List UInt8 → Res} (ho : ∀ p q r' d, ob p q = .ok r' d → r'.length < q.length) {nm r r' : List UInt8} {d : List Fd} (h : val ob nm r = .ok r' d) : r'.length < r.length := by
  have hb := blk_len r
  by_cases hh : (blk r).head? = some 123
  · have hv : val ob nm r = ob (nm ++ [46]) (blk r) := by
      unfold val
      revert hh
      cases blk r with
      | nil => intro h; cases h
      | cons c q => intro h; injection h with h; subst h; rfl
    rw [hv] at h
    have := ho _ _ _ _ h
    omega
  · rw [val_pick ob nm r hh] at h
    cases hp : pick3 (blk r) with
    | none => rw [hp] at h; cases h
    | some x =>
      rw [hp] at h
      injection h with h1 h2
      subst h1
      have := pick3_len hp
      omega
theorem mem_len {vl : List UInt8 → List UInt8 → Res} (hv : ∀ p q r' d, vl p q = .ok r' d → r'.length < q.length) {pre : List UInt8} : ∀ (n : Nat) (r r' : List UInt8) (d : List Fd), mem vl pre n r = .ok r' d → r'.length < r.length := by
  intro n
  induction n with
  | zero => intro r r' d h; cases h
  | succ n ih =>
    intro r r' d h
    rw [mem] at h
    cases ht : txt r with
    | none => rw [ht] at h; cases h
    | some x =>
      rw [ht] at h
      simp only at h
      have l1 := (txt_len ht).1
      cases he : exp 58 x.2 with
      | none => rw [he] at h; cases h
      | some r2 =>
        rw [he] at h
        simp only at h
        have l2 := exp_len he
        cases hvl : vl (pre ++ x.1) r2 with
        | err c => rw [hvl] at h; cases h
        | ok r3 fs =>
          rw [hvl] at h
          simp only at h
          have l3 := hv _ _ _ _ hvl
          split at h
          · injection h with h1 h2
            subst h1
            have := blk_len r3
            rw [List.length_tail]
            omega
          · cases hx : exp 44 r3 with
            | none => rw [hx] at h; cases h
            | some r4 =>
              rw [hx] at h
              simp only at h
              have l4 := exp_len hx
              cases hm : mem vl pre n r4 with
              | err c => rw [hm] at h; cases h
              | ok r5 fs2 =>
                rw [hm] at h
                injection h with h1 h2
                subst h1
                have := ih _ _ _ hm
                omega
theorem obj_len : ∀ (m : Nat) (pre r r' : List UInt8) (d : List Fd), obj m pre r = .ok r' d → r'.length < r.length := by
  intro m
  induction m with
  | zero => intro pre r r' d h; rw [obj] at h; split at h <;> cases h
  | succ m ih =>
    intro pre r r' d h
    rw [obj] at h
    cases he : exp 123 r with
    | none => rw [he] at h; cases h
    | some r1 =>
      rw [he] at h
      simp only at h
      have l1 := exp_len he
      split at h
      · injection h with h1 h2
        subst h1
        have := blk_len r1
        rw [List.length_tail]
        omega
      · have := mem_len (fun p q r' d h => val_len ih h) _ _ _ _ h
        omega

def comb (acc : List Fd) : Res → Res
  | .ok r d => .ok r (acc ++ d)
  | .err c => .err c
/-- One round of the loop, up to the brace; and behind it. -/
def y4 (vo : List UInt8 → List UInt8 → Res) (pre r : List UInt8) (F : List Fd) : State := blkS (valS vo (pre ++ optV (txt r)) (expS 58 (optS F (txt r))))
theorem body_yes (ob : List UInt8 → List UInt8 → Res) (pre r : List UInt8) (fs acc : List Fd) (n : Nat) (h : takB 125 (y4 ob pre r (fs ++ acc)) = true) :
    takS 125 (y4 ob pre r (fs ++ acc)) = resS fs (comb acc (mem (val ob) pre (n + 1) r)) := by
  rw [mem]
  unfold y4 at *
  cases ht : txt r with
  | none => rw [ht] at h; cases h
  | some x =>
    rw [ht] at h
    simp only [optS, optV, expS] at h ⊢
    cases he : exp 58 x.2 with
    | none => rw [he] at h; cases h
    | some r2 =>
      rw [he] at h
      simp only [valS] at h ⊢
      cases hv : val ob (pre ++ x.1) r2 with
      | err c => rw [hv] at h; cases h
      | ok r3 d =>
        rw [hv] at h
        simp only [resS, blkS, takB, takS, decide_eq_true_iff] at h ⊢
        rw [if_pos h, if_pos h]
        simp [comb, List.append_assoc]
theorem body_no (ob : List UInt8 → List UInt8 → Res) (ho : ∀ p q r' d, ob p q = .ok r' d → r'.length < q.length) (pre r : List UInt8) (fs acc : List Fd) (n : Nat) (h : takB 125 (y4 ob pre r (fs ++ acc)) = false) :
    (∃ c, expS 44 (takS 125 (y4 ob pre r (fs ++ acc))) = .er c ∧ comb acc (mem (val ob) pre (n + 1) r) = .err c) ∨
    ∃ r' d, expS 44 (takS 125 (y4 ob pre r (fs ++ acc))) = .ok r' (fs ++ (acc ++ d)) ∧ r'.length < r.length ∧ comb acc (mem (val ob) pre (n + 1) r) = comb (acc ++ d) (mem (val ob) pre n r') := by
  rw [mem]
  unfold y4 at *
  cases ht : txt r with
  | none => exact .inl ⟨1, rfl, rfl⟩
  | some x =>
    rw [ht] at h
    have l1 := (txt_len ht).1
    simp only [optS, optV, expS] at h ⊢
    cases he : exp 58 x.2 with
    | none => exact .inl ⟨1, rfl, rfl⟩
    | some r2 =>
      rw [he] at h
      have l2 := exp_len he
      simp only [valS] at h ⊢
      cases hv : val ob (pre ++ x.1) r2 with
      | err c => exact .inl ⟨c, rfl, rfl⟩
      | ok r3 d =>
        rw [hv] at h
        have l3 := val_len ho hv
        simp only [resS, blkS, takB, takS, decide_eq_false_iff_not] at h ⊢
        rw [if_neg h, if_neg h]
        simp only [exp_blk]
        cases hx : exp 44 r3 with
        | none => exact .inl ⟨1, rfl, rfl⟩
        | some r4 =>
          have l4 := exp_len hx
          refine .inr ⟨r4, d, by simp [List.append_assoc], by omega, ?_⟩
          simp only
          cases mem (val ob) pre n r4 with
          | err c => rfl
          | ok r5 fs2 => simp [comb, List.append_assoc]
end Js

end Go.Proofs.YtfdbjgdafolbmaaDoor

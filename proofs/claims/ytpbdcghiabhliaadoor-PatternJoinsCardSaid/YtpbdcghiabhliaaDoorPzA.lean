/-
  The parser, with an error or without one: its cells, what reads and takes a byte.
-/
import Derived.Test.YtpbdcghiabhliaaDoorPzM
namespace Go.Proofs.YtpbdcghiabhliaaDoor
open Go.RowKit

/-- The parser stands at i; e is its error, 0 if there is none. -/
structure ZS (b : Nat) (l : List UInt8) (i e : Nat) (w : World) : Prop where
  st : PSt b l i e w
  le : i ≤ l.length
  len : l.length ≤ 1000
  kd : Kinds w
  kb : 0 < b
/-- Nothing but the parser's own block is written. -/
structure ZQ (b : Nat) (l : List UInt8) (i e : Nat) (w w' : World) : Prop where
  ap : Apart b w w'
  ps : ZS b l i e w'
def nxN (l : List UInt8) (i e : Nat) : Nat := if e = 0 then Asc.at_ l i else 999
theorem nxN_ok {l : List UInt8} {i : Nat} : nxN l i 0 = Asc.at_ l i := rfl
theorem nxN_err {l : List UInt8} {i e : Nat} (h : e ≠ 0) : nxN l i e = 999 := if_neg h
section
variable {b i j e f : Nat} {l : List UInt8} {w w1 w2 W W' : World}
theorem ZS.ok (h : ZS b l i 0 w) : PS b l i w := ⟨h.st, h.le, h.len, h.kd, h.kb⟩
theorem PS.zs (h : PS b l i w) : ZS b l i 0 w := ⟨h.st, h.le, h.len, h.kd, h.kb⟩
theorem PQ.zq (h : PQ b l i w w1) : ZQ b l i 0 w w1 := ⟨h.ap, h.ps.zs⟩
theorem ZQ.ok (h : ZQ b l i 0 w w1) : PQ b l i w w1 := ⟨h.ap, h.ps.ok⟩
theorem ZS.drewN (h : ZS b l i e w) (n : Nat) : ZQ b l i e w (w.drewN n) := ⟨⟨⟨rfl, rfl, rfl, Nat.le_refl _, fun _ _ => rfl⟩, fun _ _ _ => rfl⟩, ⟨h.st.keep rfl (Nat.le_refl _), h.le, h.len, ⟨h.kd.1, h.kd.2⟩, h.kb⟩⟩
theorem ZQ.refl (h : ZS b l i e w) : ZQ b l i e w w := ⟨Apart.refl _ _, h⟩
theorem ZQ.trans (h : ZQ b l i e w w1) (k : ZQ b l j f w1 w2) : ZQ b l j f w w2 := ⟨h.ap.trans k.ap, k.ps⟩
theorem ZQ.on (h : ZQ b l i e w w1) (k : Below w1.heap.size w1 w2) : ZQ b l i e w w2 := ⟨h.ap.trans (Apart.of_below k h.ps.st.lt), ⟨h.ps.st.on k h.ps.st.lt, h.ps.le, h.ps.len, h.ps.kd.below k, h.ps.kb⟩⟩
theorem ZS.on (h : ZS b l i e w) {B : Nat} (k : Below B w W') (hb : b < B) : ZS b l i e W' := ⟨h.st.on k hb, h.le, h.len, h.kd.on (Nat.lt_trans h.kb hb) k, h.kb⟩
theorem ZQ.far (h : ZQ b l i e w w1) (k : Below w.heap.size w1 w2) (hb : b < w.heap.size) : ZQ b l i e w w2 := ⟨⟨h.ap.1.trans (k.mono (Nat.le_of_lt hb)), fun j h1 h2 => (k.block j h2).trans (h.ap.2 j h1 h2)⟩, h.ps.on k hb⟩
theorem psE_one' (l : List UInt8) (at_ e x : Nat) : ∀ i, i < 3 → Upd (psE l at_ e) 1 (.int .i64 (x : Int)) i = psE l x e i := fun i hi => by
  match i, hi with
  | 0, _ => rfl
  | 1, _ => rfl
  | 2, _ => rfl
theorem ZS.to (h : ZS b l i e w) (j : Nat) (hj : j ≤ l.length) : ZQ b l j e w (w.setCell ⟨b, 1, none⟩ (.int .i64 (j : Int))) := ⟨Apart.setCell w 1 _, ⟨(h.st.set 1 (by omega) _).cong (psE_one' l i e j), hj, h.len, h.kd.ap h.kb (Apart.setCell w 1 _), h.kb⟩⟩
theorem ZS.c0 (h : ZS b l i e w) : w.cell? ⟨b, 0, none⟩ = some (.string ⟨l.toArray⟩) := h.st.ev 0 (by omega)
theorem ZS.c1 (h : ZS b l i e w) : w.cell? ⟨b, 1, none⟩ = some (.int .i64 (i : Int)) := h.st.ev 1 (by omega)
theorem ZS.c2 (h : ZS b l i e w) : w.cell? ⟨b, 2, none⟩ = some (.int .i64 (e : Int)) := h.st.ev 2 (by omega)
theorem ZS.f1 (h : ZS b l i e w) : w.frozen? ⟨b, 1, none⟩ = false := h.st.fz 1
theorem ZS.lt (h : ZS b l i e w) : b < w.heap.size := h.st.lt
end
theorem zfail (b : Nat) (l : List UInt8) (i e x : Nat) (w : World) (h : ZS b l i e w) : Calls Tryd.prog 29 #[.pointer (some ⟨b, 0, none⟩), .int .i64 (x : Int)] w fun r w' => r = .returned (.tuple #[]) ∧ ZQ b l i (if e = 0 then x else e) w w' :=
  (fail_any b l i e x w h.st).mono fun _ _ hr => ⟨hr.1, hr.2.ap, hr.2.st, h.le, h.len, h.kd.ap h.kb hr.2.ap, h.kb⟩
theorem znext_ok (b : Nat) (l : List UInt8) (i : Nat) (w : World) (h : ZS b l i 0 w) (v : Nat) (hv : Asc.at_ l i = v) (hv2 : v < 256) : Calls Tryd.prog 55 #[.pointer (some ⟨b, 0, none⟩)] w fun r w' => r = .returned (.tuple #[.int .u8 (v : Int), .bool true]) ∧ ZQ b l i 0 w w' :=
  (pnext_ok b l i w h.ok v hv hv2).mono fun _ _ hr => ⟨hr.1, hr.2.zq⟩
theorem at_999 {l : List UInt8} {i : Nat} (h : Asc.at_ l i = 999) : l.length ≤ i := by
  rcases Nat.lt_or_ge i l.length with hlt | hge
  · have := Asc.at_le hlt
    omega
  · exact hge
theorem at_two (l : List UInt8) (i : Nat) : Asc.at_ l i < 256 ∨ Asc.at_ l i = 999 := by
  rcases Nat.lt_or_ge i l.length with hlt | hge
  · have := Asc.at_le hlt
    exact .inl (by omega)
  · exact .inr (by unfold Asc.at_; rw [List.getElem?_eq_none hge])
set_option maxHeartbeats 4000000 in
set_option maxRecDepth 1000000 in
theorem znext_bad (b : Nat) (l : List UInt8) (i e : Nat) (w : World) (h : ZS b l i e w) (he : e ≠ 0) : Calls Tryd.prog 55 #[.pointer (some ⟨b, 0, none⟩)] w fun r w' => r = .returned (.tuple #[.int .u8 0, .bool false]) ∧ ZQ b l i e w w' := by
  have hb := h.st.lt
  have c0 := h.c0
  have c1 := h.c1
  have c2 := h.c2
  have H := Lib.hid h
  have z1 : ((e : Int) == 0) = false := by rw [beq_eq_false_iff_ne]; omega
  have z2 : ((e : Int) != 0) = true := by simp; omega
  have z3 : decide ((e : Int) ≠ 0) = true := by simp; omega
  clear h he
  go_enter Tryd.func55, Tryd.ntmps55
  go_wp2_with fail
  go_quiet (fail)
  go_wp2_with fail
  go_ret2
  exact ⟨rfl, H.out.drewN _⟩
theorem znext_no (b : Nat) (l : List UInt8) (i e : Nat) (w : World) (h : ZS b l i e w) (hx : nxN l i e = 999) : Calls Tryd.prog 55 #[.pointer (some ⟨b, 0, none⟩)] w fun r w' => r = .returned (.tuple #[.int .u8 0, .bool false]) ∧ ZQ b l i e w w' := by
  by_cases he : e = 0
  · subst he
    exact (pnext_end b l i w h.ok (at_999 hx)).mono fun _ _ hr => ⟨hr.1, hr.2.zq⟩
  · exact znext_bad b l i e w h he
set_option maxHeartbeats 4000000 in
set_option maxRecDepth 1000000 in
theorem zsees_no (b : Nat) (l : List UInt8) (i e : Nat) (w : World) (h : ZS b l i e w) (c : Nat) (hc : nxN l i e ≠ c) : Calls Tryd.prog 57 #[.pointer (some ⟨b, 0, none⟩), .int .u8 (c : Int)] w fun r w' => r = .returned (.bool false) ∧ ZQ b l i e w w' := by
  by_cases he : e = 0
  · subst he
    exact (psees_no b l i w h.ok c hc).mono fun _ _ hr => ⟨hr.1, hr.2.zq⟩
  · have HN := Lib.hid (znext_bad b l i e w h he)
    clear h hc he
    go_enter Tryd.func57, Tryd.ntmps57
    go_wp2_with (go_at_call 55; refine HN.out.mono ?_; rintro e w1 ⟨rfl, hq⟩; have HQ := Lib.hid hq; clear hq)
    go_ret
    exact ⟨rfl, HQ.out⟩
theorem zsees_yes (b : Nat) (l : List UInt8) (i : Nat) (w : World) (h : ZS b l i 0 w) (c : Nat) (hc : Asc.at_ l i = c) (hc2 : c < 256) : Calls Tryd.prog 57 #[.pointer (some ⟨b, 0, none⟩), .int .u8 (c : Int)] w fun r w' => r = .returned (.bool true) ∧ ZQ b l i 0 w w' :=
  (psees_yes b l i w h.ok c hc hc2).mono fun _ _ hr => ⟨hr.1, hr.2.zq⟩
set_option maxHeartbeats 4000000 in
set_option maxRecDepth 1000000 in
theorem ztakes_no (b : Nat) (l : List UInt8) (i e : Nat) (w : World) (h : ZS b l i e w) (c : Nat) (hc : nxN l i e ≠ c) : Calls Tryd.prog 41 #[.pointer (some ⟨b, 0, none⟩), .int .u8 (c : Int)] w fun r w' => r = .returned (.bool false) ∧ ZQ b l i e w w' := by
  have HN := Lib.hid (zsees_no b l i e w h c hc)
  clear h hc
  go_enter Tryd.func41, Tryd.ntmps41
  go_wp2_with (go_at_call 57; refine HN.out.mono ?_; rintro e w1 ⟨rfl, hq⟩; have HQ := Lib.hid hq; clear hq)
  go_ret
  exact ⟨rfl, HQ.out⟩
theorem ztakes_yes (b : Nat) (l : List UInt8) (i : Nat) (w : World) (h : ZS b l i 0 w) (c : Nat) (hc : Asc.at_ l i = c) (hc2 : c < 256) : Calls Tryd.prog 41 #[.pointer (some ⟨b, 0, none⟩), .int .u8 (c : Int)] w fun r w' => r = .returned (.bool true) ∧ ZQ b l (i + 1) 0 w w' :=
  (ptakes_yes b l i w h.ok c hc hc2).mono fun _ _ hr => ⟨hr.1, hr.2.zq⟩
theorem zexpect_yes (b : Nat) (l : List UInt8) (i : Nat) (w : World) (h : ZS b l i 0 w) (c : Nat) (hc : Asc.at_ l i = c) (hc2 : c < 256) : Calls Tryd.prog 76 #[.pointer (some ⟨b, 0, none⟩), .int .u8 (c : Int)] w fun r w' => r = .returned (.tuple #[]) ∧ ZQ b l (i + 1) 0 w w' :=
  (pexpect_yes b l i w h.ok c hc hc2).mono fun _ _ hr => ⟨hr.1, hr.2.zq⟩
set_option maxHeartbeats 4000000 in
set_option maxRecDepth 1000000 in
theorem zexpect_no (b : Nat) (l : List UInt8) (i e : Nat) (w : World) (h : ZS b l i e w) (c : Nat) (hc : nxN l i e ≠ c) : Calls Tryd.prog 76 #[.pointer (some ⟨b, 0, none⟩), .int .u8 (c : Int)] w fun r w' => r = .returned (.tuple #[]) ∧ ZQ b l i (if e = 0 then 1 else e) w w' := by
  have HN := Lib.hid (ztakes_no b l i e w h c hc)
  have HF := Lib.hid fun W (hW : ZS b l i e W) => zfail b l i e 1 W hW
  obtain ⟨R, hR⟩ : ∃ R, (if e = 0 then 1 else e) = R := ⟨_, rfl⟩
  rw [hR] at HF ⊢
  clear h hc hR
  go_enter Tryd.func76, Tryd.ntmps76
  go_wp2_with (first | (go_at_call 41; refine HN.out.mono ?_; rintro e w1 ⟨rfl, hq⟩; have HQ := Lib.hid hq; clear hq) | (go_at_call 29; refine (HF.out _ HQ.out.ps).mono ?_; rintro e w1 ⟨rfl, hq⟩; have HQ2 := Lib.hid (HQ.out.trans hq); clear hq))
  go_end0
  exact ⟨rfl, HQ2.out⟩
end Go.Proofs.YtpbdcghiabhliaaDoor

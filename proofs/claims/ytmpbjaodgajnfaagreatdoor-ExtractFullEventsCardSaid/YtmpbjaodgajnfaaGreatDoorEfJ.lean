/-
 Joined: PzA, PzB, PyA, PzC, PzD, NumK, NumA, PzE, PzG, PzH.
-/
import Derived.Test.YtmpbjaodgajnfaaGreatDoorEfI
import Derived.Test.YtmpbjaodgajnfaaGreatDoorEfB
import Derived.Lib.ItoaNum
import Derived.Test.YtmpbjaodgajnfaaGreatDoorEfA
import Derived.Outline
import Derived.Lib.QuietBelow
namespace Go.Proofs.YtmpbjaodgajnfaaGreatDoor
open Go.RowKit
structure ZS (b : Nat) (l : List UInt8) (i e : Nat) (w : World) : Prop where
 st : PSt b l i e w
 le : i ≤ l.length
 len : l.length ≤ 1000
 kd : Kinds w
 kb : 1 < b
structure ZQ (b : Nat) (l : List UInt8) (i e : Nat) (w w' : World) : Prop where
 ap : Apart b w w'
 ps : ZS b l i e w'
def nxN (l : List UInt8) (i e : Nat) : Nat := if e = 0 then Asc.at_ l i else 999
theorem nxN_ok {l : List UInt8} {i : Nat} : nxN l i 0 = Asc.at_ l i := rfl
theorem nxN_err {l : List UInt8} {i e : Nat} (h : e ≠ 0) : nxN l i e = 999 := if_neg h
section
variable {b i j e f : Nat} {l : List UInt8} {w w1 w2 W W' : World}
theorem ZS.ok (h : ZS b l i 0 w) : PS b l i w := ⟨h.st, h.le, h.len, h.kd, h.kb⟩
theorem PS.zs (h : PS b l i w) : ZS b l i 0 w := ⟨h.st, h.le, h.len, h.kd, h.kb⟩
theorem PQ.zq (h : PQ b l i w w1) : ZQ b l i 0 w w1 := ⟨h.ap, h.ps.zs⟩
theorem ZQ.ok (h : ZQ b l i 0 w w1) : PQ b l i w w1 := ⟨h.ap, h.ps.ok⟩
theorem ZS.drewN (h : ZS b l i e w) (n : Nat) : ZQ b l i e w (w.drewN n) := ⟨⟨⟨rfl, rfl, rfl, Nat.le_refl _, fun _ _ => rfl⟩, fun _ _ _ => rfl⟩, ⟨h.st.keep rfl (Nat.le_refl _), h.le, h.len, ⟨h.kd.1, h.kd.2⟩, h.kb⟩⟩
theorem ZQ.refl (h : ZS b l i e w) : ZQ b l i e w w := ⟨Apart.refl _ _, h⟩
theorem ZQ.trans (h : ZQ b l i e w w1) (k : ZQ b l j f w1 w2) : ZQ b l j f w w2 := ⟨h.ap.trans k.ap, k.ps⟩
theorem ZQ.on (h : ZQ b l i e w w1) (k : Below w1.heap.size w1 w2) : ZQ b l i e w w2 := ⟨h.ap.trans (Apart.of_below k h.ps.st.lt), ⟨h.ps.st.on k h.ps.st.lt, h.ps.le, h.ps.len, h.ps.kd.below k, h.ps.kb⟩⟩
theorem ZS.on (h : ZS b l i e w) {B : Nat} (k : Below B w W') (hb : b < B) : ZS b l i e W' := ⟨h.st.on k hb, h.le, h.len, h.kd.on (Nat.lt_trans h.kb hb) k, h.kb⟩
theorem ZQ.far (h : ZQ b l i e w w1) (k : Below w.heap.size w1 w2) (hb : b < w.heap.size) : ZQ b l i e w w2 := ⟨⟨h.ap.1.trans (k.mono (Nat.le_of_lt hb)), fun j h1 h2 => (k.block j h2).trans (h.ap.2 j h1 h2)⟩, h.ps.on k hb⟩
theorem psE_one' (l : List UInt8) (at_ e x : Nat) : ∀ i, i < 3 → Upd (psE l at_ e) 1 (.int .i64 (x : Int)) i = psE l x e i := fun i hi => by
 match i, hi with
 | 0, _ => rfl
 | 1, _ => rfl
 | 2, _ => rfl
theorem ZS.to (h : ZS b l i e w) (j : Nat) (hj : j ≤ l.length) : ZQ b l j e w (w.setCell ⟨b, 1, none⟩ (.int .i64 (j : Int))) := ⟨Apart.setCell w 1 _, ⟨(h.st.set 1 (by omega) _).cong (psE_one' l i e j), hj, h.len, h.kd.ap h.kb (Apart.setCell w 1 _), h.kb⟩⟩
theorem ZS.c0 (h : ZS b l i e w) : w.cell? ⟨b, 0, none⟩ = some (.string ⟨l.toArray⟩) := h.st.ev 0 (by omega)
theorem ZS.c1 (h : ZS b l i e w) : w.cell? ⟨b, 1, none⟩ = some (.int .i64 (i : Int)) := h.st.ev 1 (by omega)
theorem ZS.c2 (h : ZS b l i e w) : w.cell? ⟨b, 2, none⟩ = some (.int .i64 (e : Int)) := h.st.ev 2 (by omega)
theorem ZS.f1 (h : ZS b l i e w) : w.frozen? ⟨b, 1, none⟩ = false := h.st.fz 1
theorem ZS.lt (h : ZS b l i e w) : b < w.heap.size := h.st.lt
end
theorem zfail (b : Nat) (l : List UInt8) (i e x : Nat) (w : World) (h : ZS b l i e w) : Calls Tryz.prog 52 #[.pointer (some ⟨b, 0, none⟩), .int .i64 (x : Int)] w fun r w' => r = .returned (.tuple #[]) ∧ ZQ b l i (if e = 0 then x else e) w w' :=
 (fail_any b l i e x w h.st).mono fun _ _ hr => ⟨hr.1, hr.2.ap, hr.2.st, h.le, h.len, h.kd.ap h.kb hr.2.ap, h.kb⟩
theorem znext_ok (b : Nat) (l : List UInt8) (i : Nat) (w : World) (h : ZS b l i 0 w) (v : Nat) (hv : Asc.at_ l i = v) (hv2 : v < 256) : Calls Tryz.prog 101 #[.pointer (some ⟨b, 0, none⟩)] w fun r w' => r = .returned (.tuple #[.int .u8 (v : Int), .bool true]) ∧ ZQ b l i 0 w w' :=
 (pnext_ok b l i w h.ok v hv hv2).mono fun _ _ hr => ⟨hr.1, hr.2.zq⟩
theorem at_999 {l : List UInt8} {i : Nat} (h : Asc.at_ l i = 999) : l.length ≤ i := by
 rcases Nat.lt_or_ge i l.length with hlt | hge
 ·have := Asc.at_le hlt
  omega
 ·exact hge
theorem at_two (l : List UInt8) (i : Nat) : Asc.at_ l i < 256 ∨ Asc.at_ l i = 999 := by
 rcases Nat.lt_or_ge i l.length with hlt | hge
 ·have := Asc.at_le hlt
  exact .inl (by omega)
 ·exact .inr (by unfold Asc.at_; rw [List.getElem?_eq_none hge])
set_option maxHeartbeats 4000000 in
set_option maxRecDepth 1000000 in
theorem znext_bad (b : Nat) (l : List UInt8) (i e : Nat) (w : World) (h : ZS b l i e w) (he : e ≠ 0) : Calls Tryz.prog 101 #[.pointer (some ⟨b, 0, none⟩)] w fun r w' => r = .returned (.tuple #[.int .u8 0, .bool false]) ∧ ZQ b l i e w w' := by
 have hb := h.st.lt
 have c0 := h.c0
 have c1 := h.c1
 have c2 := h.c2
 have H := Lib.hid h
 have z1 : ((e : Int) == 0) = false := by rw [beq_eq_false_iff_ne]; omega
 have z2 : ((e : Int) != 0) = true := by simp; omega
 have z3 : decide ((e : Int) ≠ 0) = true := by simp; omega
 clear h he
 go_enter Tryz.func101, Tryz.ntmps101
 go_wp2_with fail
 go_quiet (fail)
 go_wp2_with fail
 go_ret2
 exact ⟨rfl, H.out.drewN _⟩
theorem znext_no (b : Nat) (l : List UInt8) (i e : Nat) (w : World) (h : ZS b l i e w) (hx : nxN l i e = 999) : Calls Tryz.prog 101 #[.pointer (some ⟨b, 0, none⟩)] w fun r w' => r = .returned (.tuple #[.int .u8 0, .bool false]) ∧ ZQ b l i e w w' := by
 by_cases he : e = 0
 ·subst he
  exact (pnext_end b l i w h.ok (at_999 hx)).mono fun _ _ hr => ⟨hr.1, hr.2.zq⟩
 ·exact znext_bad b l i e w h he
set_option maxHeartbeats 4000000 in
set_option maxRecDepth 1000000 in
theorem zsees_no (b : Nat) (l : List UInt8) (i e : Nat) (w : World) (h : ZS b l i e w) (c : Nat) (hc : nxN l i e ≠ c) : Calls Tryz.prog 103 #[.pointer (some ⟨b, 0, none⟩), .int .u8 (c : Int)] w fun r w' => r = .returned (.bool false) ∧ ZQ b l i e w w' := by
 by_cases he : e = 0
 ·subst he
  exact (psees_no b l i w h.ok c hc).mono fun _ _ hr => ⟨hr.1, hr.2.zq⟩
 ·have HN := Lib.hid (znext_bad b l i e w h he)
  clear h hc he
  go_enter Tryz.func103, Tryz.ntmps103
  go_wp2_with (go_at_call 101; refine HN.out.mono ?_; rintro e w1 ⟨rfl, hq⟩; have HQ := Lib.hid hq; clear hq)
  go_ret
  exact ⟨rfl, HQ.out⟩
theorem zsees_yes (b : Nat) (l : List UInt8) (i : Nat) (w : World) (h : ZS b l i 0 w) (c : Nat) (hc : Asc.at_ l i = c) (hc2 : c < 256) : Calls Tryz.prog 103 #[.pointer (some ⟨b, 0, none⟩), .int .u8 (c : Int)] w fun r w' => r = .returned (.bool true) ∧ ZQ b l i 0 w w' :=
 (psees_yes b l i w h.ok c hc hc2).mono fun _ _ hr => ⟨hr.1, hr.2.zq⟩
set_option maxHeartbeats 4000000 in
set_option maxRecDepth 1000000 in
theorem ztakes_no (b : Nat) (l : List UInt8) (i e : Nat) (w : World) (h : ZS b l i e w) (c : Nat) (hc : nxN l i e ≠ c) : Calls Tryz.prog 74 #[.pointer (some ⟨b, 0, none⟩), .int .u8 (c : Int)] w fun r w' => r = .returned (.bool false) ∧ ZQ b l i e w w' := by
 have HN := Lib.hid (zsees_no b l i e w h c hc)
 clear h hc
 go_enter Tryz.func74, Tryz.ntmps74
 go_wp2_with (go_at_call 103; refine HN.out.mono ?_; rintro e w1 ⟨rfl, hq⟩; have HQ := Lib.hid hq; clear hq)
 go_ret
 exact ⟨rfl, HQ.out⟩
theorem ztakes_yes (b : Nat) (l : List UInt8) (i : Nat) (w : World) (h : ZS b l i 0 w) (c : Nat) (hc : Asc.at_ l i = c) (hc2 : c < 256) : Calls Tryz.prog 74 #[.pointer (some ⟨b, 0, none⟩), .int .u8 (c : Int)] w fun r w' => r = .returned (.bool true) ∧ ZQ b l (i + 1) 0 w w' :=
 (ptakes_yes b l i w h.ok c hc hc2).mono fun _ _ hr => ⟨hr.1, hr.2.zq⟩
theorem zexpect_yes (b : Nat) (l : List UInt8) (i : Nat) (w : World) (h : ZS b l i 0 w) (c : Nat) (hc : Asc.at_ l i = c) (hc2 : c < 256) : Calls Tryz.prog 156 #[.pointer (some ⟨b, 0, none⟩), .int .u8 (c : Int)] w fun r w' => r = .returned (.tuple #[]) ∧ ZQ b l (i + 1) 0 w w' :=
 (pexpect_yes b l i w h.ok c hc hc2).mono fun _ _ hr => ⟨hr.1, hr.2.zq⟩
set_option maxHeartbeats 4000000 in
set_option maxRecDepth 1000000 in
theorem zexpect_no (b : Nat) (l : List UInt8) (i e : Nat) (w : World) (h : ZS b l i e w) (c : Nat) (hc : nxN l i e ≠ c) : Calls Tryz.prog 156 #[.pointer (some ⟨b, 0, none⟩), .int .u8 (c : Int)] w fun r w' => r = .returned (.tuple #[]) ∧ ZQ b l i (if e = 0 then 1 else e) w w' := by
 have HN := Lib.hid (ztakes_no b l i e w h c hc)
 have HF := Lib.hid fun W (hW : ZS b l i e W) => zfail b l i e 1 W hW
 obtain ⟨R, hR⟩ : ∃ R, (if e = 0 then 1 else e) = R := ⟨_, rfl⟩
 rw [hR] at HF ⊢
 clear h hc hR
 go_enter Tryz.func156, Tryz.ntmps156
 go_wp2_with (first | (go_at_call 74; refine HN.out.mono ?_; rintro e w1 ⟨rfl, hq⟩; have HQ := Lib.hid hq; clear hq) | (go_at_call 52; refine (HF.out _ HQ.out.ps).mono ?_; rintro e w1 ⟨rfl, hq⟩; have HQ2 := Lib.hid (HQ.out.trans hq); clear hq))
 go_end0
 exact ⟨rfl, HQ2.out⟩
end Go.Proofs.YtmpbjaodgajnfaaGreatDoor
namespace Go.Proofs.YtmpbjaodgajnfaaGreatDoor
open Go.RowKit
def PNz (b : Nat) (l : List UInt8) (r : Out NT) (w : World) (en : Ending) (w' : World) : Prop := ∃ v t j e, en = .returned v ∧ NG (fun k => w.heap.size ≤ k) w' t v ∧ ZQ b l j e w w' ∧ fits r t j e
def RdZ (fn : Nat) (b : Nat) (l : List UInt8) (i : Nat) (r : Out NT) : Prop := ∀ W, ZS b l i 0 W → Calls Tryz.prog fn #[.pointer (some ⟨b, 0, none⟩)] W (PNz b l r W)
structure ZR (b : Nat) (l : List UInt8) (i e : Nat) (w W : World) : Prop where
 pq : ZQ b l i e w W
 bk : BK w.heap.size 6 (nE 0 none 0 0 [] none 0 0 0 0) W
 hb : b < w.heap.size
section
variable {b i j e f : Nat} {l : List UInt8} {w W W' : World}
theorem ZR.start (h : ZS b l i e w) : ZR b l i e w (w.alloc (.cells #[.int .i64 0, .slice none 0 0, .string ⟨#[]⟩, .slice none 0 0, .int .i64 0, .int .i64 0] 33)) := ⟨(ZQ.refl h).on (al_below w _), nE_new w 0 none 0 0 [] none 0 0 0 0, h.st.lt⟩
theorem ZR.go (h : ZR b l i e w W) (k : ZQ b l j f W W') : ZR b l j f w W' := ⟨h.pq.trans k, h.bk.go k.ap (Nat.ne_of_gt h.hb), h.hb⟩
theorem ZR.sz (h : ZR b l i e w W) : w.heap.size < W.heap.size := h.bk.lt
theorem ZR.far (h : ZR b l i e w W) (k : Below (w.heap.size + 1) W W') : ZR b l i e w W' := ⟨h.pq.far (k.mono (Nat.le_succ _)) h.hb, h.bk.on k (Nat.lt_succ_self _), h.hb⟩
theorem ZR.on (h : ZR b l i e w W) (k : Below W.heap.size W W') : ZR b l i e w W' := h.far (k.mono h.sz)
theorem ZR.ps (h : ZR b l i e w W) : ZS b l i e W := h.pq.ps
end
theorem node_retz {fn : Func} {P : Tmp} (hfn : fn.results = #[.cell P 33]) {w W : World} {b j e : Nat} {l : List UInt8} (hS : ZR b l j e w W) (tmps : Array Value) (df : _) (hdf : df = []) (hp : tmps.getD P undef = .pointer (some ⟨w.heap.size, 0, none⟩)) {v0 v1 v2 v3 v4 v5 : Value} {t : NT} {r : Out NT}
  (hT : NG (fun k => w.heap.size < k) W t (.agg #[v0, v1, v2, v3, v4, v5])) (hr : fits r t j e) :
  bodyPost Tryz.prog fn (PNz b l r w) Exit.ret { tmps := tmps, defers := df } (setL W w.heap.size [v0, v1, v2, v3, v4, v5] 0) := by
 have hb := setL_below (B := w.heap.size) (b := w.heap.size) (Nat.le_refl _) [v0, v1, v2, v3, v4, v5] W 0
 exact item_ret hfn hS.bk hdf hp ⟨_, t, j, e, rfl, NG.go ⟨hb.size, fun j hj _ => ⟨Nat.le_of_lt hj, setL_heap _ (Nat.ne_of_gt hj) _ _⟩⟩ _ _ hT, hS.pq.far hb hS.hb, hr⟩
theorem zero_retz {fn : Func} {P : Tmp} (hfn : fn.results = #[.cell P 33]) {w W : World} {b j e : Nat} {l : List UInt8} (hS : ZR b l j e w W) (tmps : Array Value) (df : _) (hdf : df = []) (hp : tmps.getD P undef = .pointer (some ⟨w.heap.size, 0, none⟩)) {r : Out NT} (he : e ≠ 0) (hr : r = .error (j, e)) :
  bodyPost Tryz.prog fn (PNz b l r w) Exit.ret { tmps := tmps, defers := df } (setL W w.heap.size [.int .i64 0, .slice none 0 0, .string ⟨#[]⟩, .slice none 0 0, .int .i64 0, .int .i64 0] 0) := by
 subst hr
 exact node_retz hfn hS tmps df hdf hp (NG.node (rs := []) (kids := []) RW.nil RW.nil 0 [] 0 0 (by simp)) (fits_err he)
theorem NG.zq {b B j e : Nat} {l : List UInt8} {W W' : World} {t : NT} {v : Value} (h : NG (fun k => B < k) W t v) (k : ZQ b l j e W W') (hb : b ≤ B) : NG (fun k => B < k) W' t v := NG.go ⟨k.ap.1.size, fun _ hk hl => ⟨hk, k.ap.block (by omega) hl⟩⟩ _ _ h
structure ZA (b : Nat) (l : List UInt8) (i e : Nat) (w : World) (q : Nat) (E : Nat → Value) (t : NT) (v : Value) (W : World) : Prop where
 pr : ZR b l i e w W
 bk : BK q 6 E W
 ng : NG (fun k => w.heap.size < k) W t v
 hq : w.heap.size < q
theorem ZA.go {b : Nat} {l : List UInt8} {i e j f : Nat} {w : World} {q : Nat} {E : Nat → Value} {t : NT} {v : Value} {W W' : World} (h : ZA b l i e w q E t v W) (k : ZQ b l j f W W') : ZA b l j f w q E t v W' := ⟨h.pr.go k, h.bk.go k.ap (by have := h.pr.hb; have := h.hq; omega), h.ng.zq k (Nat.le_of_lt h.pr.hb), h.hq⟩
theorem ZA.start {b : Nat} {l : List UInt8} {j e : Nat} {w W : World} {t : NT} {op : Int} {ra : Option Addr} {rn rc : Nat} {nm : List UInt8} {a : Option Addr} {n c : Nat} {mn mx : Int} (h : ZR b l j e w W) (hT : NG (fun k => w.heap.size < k) W t (.agg #[.int .i64 op, .slice ra rn rc, .string ⟨nm.toArray⟩, .slice a n c, .int .i64 mn, .int .i64 mx])) :
  ZA b l j e w W.heap.size (nE op ra rn rc nm a n c mn mx) t (.agg #[.int .i64 op, .slice ra rn rc, .string ⟨nm.toArray⟩, .slice a n c, .int .i64 mn, .int .i64 mx]) (W.alloc (.cells #[.int .i64 op, .slice ra rn rc, .string ⟨nm.toArray⟩, .slice a n c, .int .i64 mn, .int .i64 mx] 33)) :=
 ⟨h.on (al_below W _), nE_new W op ra rn rc nm a n c mn mx, hT.low (al_below W _), h.sz⟩
structure ZL (b : Nat) (l : List UInt8) (i e : Nat) (w : World) (kids : List NT) (v : Value) (W : World) : Prop where
 pr : ZR b l i e w W
 row : OR (w.heap.size + 1) 33 6 (KR (FF (fun k => w.heap.size < k) v) W) W kids v
section
variable {b i e j f : Nat} {l : List UInt8} {w W W' : World} {kids : List NT} {v x : Value} {t : NT}
theorem ZL.start (h : ZR b l i e w W) : ZL b l i e w [] (.slice none 0 0) W := ⟨h, OR.nil⟩
theorem ZL.go (h : ZL b l i e w kids v W) (k : ZQ b l j f W W') : ZL b l j f w kids v W' :=
 ⟨h.pr.go k, h.row.keep (fun m h1 h2 => k.ap.block (by have := h.pr.hb; omega) h2) (fun _ _ hx => KR.go ⟨k.ap.1.size, fun m hm hl => ⟨hm, k.ap.block (by have := h.pr.hb; have := hm.1; omega) hl⟩⟩ _ _ hx)⟩
theorem ZL.new (h : ZL b l i e w kids v W) (hT : NG (fun k => W.heap.size ≤ k) W' t x) : NG (FF (fun k => w.heap.size < k) v) W' t x :=
 NG.go ⟨Nat.le_refl _, fun k hk _ => ⟨⟨Nat.lt_of_lt_of_le h.pr.sz hk, fun e => by have := (h.row.lt e).2; omega⟩, rfl⟩⟩ _ _ hT
theorem ZL.push {o : Obj} {g' cap H : Nat} {W5 : World} (h : ZL b l i e w kids v W) (cs : List Value) (hown : W.ownsRow (w.heap.size + 1) 33 6 v kids.length cs)
  (hpush : ∀ (R' : NT → List Value → Prop) (W' : World) (x : NT) (us : List Value) (v' : Value), (∀ x us, KR (FF (fun k => w.heap.size < k) v) W x us → R' x us) → us.length = 6 → R' x us → kids.length + 1 ≤ 1000000 → W'.ownsRow (w.heap.size + 1) 33 6 v' (kids.length + 1) (cs ++ us) → OR (w.heap.size + 1) 33 6 R' W' (kids ++ [x]) v')
  (hgr : (W.alloc o).grownBy W5 v.ownBlock) (hat : v.ownBlock = some g' ∨ g' = H) (hH : H = (W.alloc o).heap.size) (us : List Value) (hu : us.length = 6) (hx : KR (FF (fun k => w.heap.size < k) v) W t us) (hl : kids.length + 1 ≤ 1000000)
  (ho : W5.ownsRow (w.heap.size + 1) 33 6 (.slice (some ⟨g', 0, none⟩) (kids.length + 1) cap) (kids.length + 1) (cs ++ us)) : ZL b l i e w (kids ++ [t]) (.slice (some ⟨g', 0, none⟩) (kids.length + 1) cap) W5 := by
 have hB := push_below hgr hown h.pr.sz
 have hst := push_stay (G := fun k => w.heap.size < k) (n := kids.length + 1) (cap := cap) hgr (hat.imp id (fun e => by rw [e, hH]; simp))
 exact ⟨h.pr.far hB, hpush _ _ t us _ (fun _ _ h => KR.go hst _ _ h) hu (KR.go hst _ _ hx) hl ho⟩
theorem ZL.rows (h : ZL b l i e w kids v W) : RW (fun k => w.heap.size + 1 ≤ k) 6 (KR (fun k => w.heap.size + 1 ≤ k) W) W kids v :=
 (h.row.rw (F := fun k => w.heap.size + 1 ≤ k) (fun _ h => h)).go ⟨Nat.le_refl _, fun _ hk _ => ⟨hk, rfl⟩⟩ (fun _ _ h => KR.go ⟨Nat.le_refl _, fun _ hk _ => ⟨hk.1, rfl⟩⟩ _ _ h)
end
theorem ZL.lit {b i e : Nat} {l : List UInt8} {w W : World} {t : NT} (h : ZR b l i e w W) (us : List Value) (hu : us.length = 6) (hT : KR (fun k => w.heap.size < k) W t us) : ZL b l i e w [t] (.slice (some ⟨W.heap.size, 0, none⟩) 1 1) (W.alloc (.cells us.toArray 33)) :=
 ⟨h.on (al_below W _), OR.lit W t us h.sz hu (KR.go ⟨(al_below W _).size, fun k hk hl => ⟨⟨hk, fun e => by simp only [Value.ownBlock, Option.some.injEq] at e; omega⟩, (al_below W _).block k hl⟩⟩ _ _ hT)⟩
end Go.Proofs.YtmpbjaodgajnfaaGreatDoor
namespace Go.Proofs.YtmpbjaodgajnfaaGreatDoor
open Go.RowKit
set_option maxHeartbeats 4000000 in
set_option maxRecDepth 1000000 in
theorem printable_low (c : Nat) (w : World) (h : c < 32) : Calls Tryz.prog 153 #[.int .u8 (c : Int)] w fun e w' => e = .returned (.bool false) ∧ w = w' := by
 have z1 : decide ((32 : Int) ≤ (c : Int)) = false := decide_eq_false (by omega)
 have y1 : decide (32 ≤ c) = false := decide_eq_false (by omega)
 go_enter Tryz.func153, Tryz.ntmps153
 go_wp2_with fail
 go_ret
 exact ⟨rfl, rfl⟩
set_option maxHeartbeats 4000000 in
set_option maxRecDepth 1000000 in
theorem printable_high (c : Nat) (w : World) (h : 126 < c) : Calls Tryz.prog 153 #[.int .u8 (c : Int)] w fun e w' => e = .returned (.bool false) ∧ w = w' := by
 have z1 : decide ((32 : Int) ≤ (c : Int)) = true := decide_eq_true (by omega)
 have y1 : decide (32 ≤ c) = true := decide_eq_true (by omega)
 have z2 : decide ((c : Int) ≤ 126) = false := decide_eq_false (by omega)
 have y2 : decide (c ≤ 126) = false := decide_eq_false (by omega)
 go_enter Tryz.func153, Tryz.ntmps153
 go_wp2_with fail
 go_ret
 exact ⟨rfl, rfl⟩
theorem printable_no (c : Nat) (w : World) (h : c < 32 ∨ 126 < c) : Calls Tryz.prog 153 #[.int .u8 (c : Int)] w fun e w' => e = .returned (.bool false) ∧ w = w' := by
 rcases h with h | h
 ·exact printable_low c w h
 ·exact printable_high c w h
theorem ib_no (s : List UInt8) (c : UInt8) (w : World) (h : c ∉ s) : Calls Tryz.prog 154 #[.string ⟨s.toArray⟩, .int .u8 (c.toNat : Int)] w fun e w' => e = .returned (.int .i64 (-1)) ∧ w = w' := by
 refine (ibyte_any _ _ w).mono ?_
 rintro e w' ⟨rfl, rfl⟩
 refine ⟨?_, rfl⟩
 show Ending.returned (.int .i64 (Lib.indexByte s _)) = _
 rw [u8_of, Asc.indexByte_pos, if_neg (Asc.pos_none fun j hj => fun e => h (by rw [← e]; exact List.getElem_mem hj))]
theorem ib_yes (s : List UInt8) (c : UInt8) (w : World) (h : c ∈ s) : Calls Tryz.prog 154 #[.string ⟨s.toArray⟩, .int .u8 (c.toNat : Int)] w fun e w' => e = .returned (.int .i64 (Asc.pos s c : Int)) ∧ w = w' := by
 refine (ibyte_any _ _ w).mono ?_
 rintro e w' ⟨rfl, rfl⟩
 refine ⟨?_, rfl⟩
 show Ending.returned (.int .i64 (Lib.indexByte s _)) = _
 have hp : Asc.pos s c < s.length := by
  unfold Asc.pos
  rw [List.findIdx_lt_length]
  exact ⟨c, h, by simp⟩
 rw [u8_of, Asc.indexByte_pos, if_pos hp]
def oddL : List UInt8 := [93, 45, 94, 92]
end Go.Proofs.YtmpbjaodgajnfaaGreatDoor
namespace Go.Proofs.YtmpbjaodgajnfaaGreatDoor
open Go.RowKit
def EscZ (b : Nat) (l : List UInt8) (r : Out ((Nat → Bool) × Nat × Bool)) (w : World) (en : Ending) (w' : World) : Prop := ∃ f c one j e, en = .returned (.tuple #[.agg (setA f), .int .u8 ((c : Nat) : Int), .bool one]) ∧ ZQ b l j e w w' ∧ c < 256 ∧ fits r (f, c, one) j e
theorem where_word (w : World) (hk : Kinds w) : Calls Tryz.prog 169 #[.func (.func 158) #[] #[]] w fun e w' => e = .returned (.agg (setA Asc.isWord)) ∧ Below w.heap.size w w' :=
 where_any _ (enters_of (P := Tryz.prog) (fn := Tryz.f158) (by kernel_rfl) (by kernel_rfl) rfl) _ w (fun c hc W hb => word_any c W hc (hk.below hb))
theorem where_space (w : World) (hk : Kinds w) : Calls Tryz.prog 169 #[.func (.func 171) #[] #[]] w fun e w' => e = .returned (.agg (setA Asc.isSpace)) ∧ Below w.heap.size w w' :=
 where_any _ (enters_of (P := Tryz.prog) (fn := Tryz.f171) (by kernel_rfl) (by kernel_rfl) rfl) _ w (fun c hc W hb => space_any c W hc (hk.below hb))
theorem at_u8 {l : List UInt8} {i : Nat} (h : Asc.at_ l i < 256) : ∃ c : UInt8, Asc.at_ l i = c.toNat := ⟨UInt8.ofNat (Asc.at_ l i), (ofNat8 h).symm⟩
set_option maxHeartbeats 8000000 in
set_option maxRecDepth 1000000 in
theorem escz_d (b : Nat) (l : List UInt8) (i : Nat) (w : World) (h : ZS b l i 0 w) (hc : Asc.at_ l i = 100) : Calls Tryz.prog 152 #[.pointer (some ⟨b, 0, none⟩)] w (EscZ b l (.ok ((Asc.isDigit, 100, false), i + 1)) w) := by
 have hv := (zero_of_info infoS).1
 have hbb := h.st.lt
 have H := Lib.hid h
 have hl : i < l.length := Asc.at_lt (by omega)
 have hl2 := h.len
 have hw : IntKind.i64.wrap ((i : Int) + 1) = (i : Int) + 1 := IntWalk.i64_in _ (by omega)
 have HL := Lib.hid hl
 have HN := Lib.hid fun W (hW : ZS b l i 0 W) => znext_ok b l i W hW 100 hc (by omega)
 clear hl
 clear h
 go_enter Tryz.func152, Tryz.ntmps152
 go_wp2_with fail
 rw [← setA_false]
 have HQ0 := Lib.hid ((ZQ.refl H.out).on (al_below w (.cells (setA (fun _ => false)) 213)))
 refine (HN.out _ HQ0.out.ps).mono ?_
 rintro e w1 ⟨rfl, hq⟩
 have HQ1 := Lib.hid (HQ0.out.trans hq)
 have HB1 := Lib.hid ((hq.ap.block (k := w.heap.size) (by omega) (by simp)).trans (heap_alloc_new w _))
 clear hq HQ0
 go_wp2_with fail
 refine (where_digit w1 HQ1.out.ps.kd).mono ?_
 rintro e w2 ⟨rfl, hb2⟩
 have HB2 := Lib.hid ((hb2.block _ (Array.getElem?_eq_some_iff.1 HB1.out).1).trans HB1.out)
 have HQ2 := Lib.hid (HQ1.out.on hb2)
 clear hb2 HQ1 HB1
 obtain ⟨w3, e3, h3, hb3, e3'⟩ := put_set2 HB2.out Asc.isDigit
 have HQ3 := Lib.hid (HQ2.out.far (hb3.mono (Nat.le_refl _)) hbb)
 have HB3 := Lib.hid h3
 have c1 := HQ3.out.ps.c1
 have f1 := HQ3.out.ps.f1
 clear h3 hb3 HQ2 HB2
 go_wp2_with fail
 have h4 : (w3.setCell ⟨b, 1, none⟩ (.int .i64 ((i : Int) + 1))).heap[w.heap.size]? = _ := (Below.heap_setCell _ _ _ w.heap.size (by simp only; omega)).trans HB3.out
 have e4 := put_self h4
 refine wp_load_set _ rfl w.heap.size rfl _ _ h4 ?_
 go_wp2_with fail
 exact ret_set3 rfl h4 rfl rfl ⟨Asc.isDigit, 100, false, i + 1, 0, rfl, HQ3.out.trans (HQ3.out.ps.to (i + 1) HL.out), by decide, fits_ok⟩
set_option maxHeartbeats 8000000 in
set_option maxRecDepth 1000000 in
theorem escz_w (b : Nat) (l : List UInt8) (i : Nat) (w : World) (h : ZS b l i 0 w) (hc : Asc.at_ l i = 119) : Calls Tryz.prog 152 #[.pointer (some ⟨b, 0, none⟩)] w (EscZ b l (.ok ((Asc.isWord, 119, false), i + 1)) w) := by
 have hv := (zero_of_info infoS).1
 have hbb := h.st.lt
 have H := Lib.hid h
 have hl : i < l.length := Asc.at_lt (by omega)
 have hl2 := h.len
 have hw : IntKind.i64.wrap ((i : Int) + 1) = (i : Int) + 1 := IntWalk.i64_in _ (by omega)
 have HL := Lib.hid hl
 have HN := Lib.hid fun W (hW : ZS b l i 0 W) => znext_ok b l i W hW 119 hc (by omega)
 clear hl
 clear h
 go_enter Tryz.func152, Tryz.ntmps152
 go_wp2_with fail
 rw [← setA_false]
 have HQ0 := Lib.hid ((ZQ.refl H.out).on (al_below w (.cells (setA (fun _ => false)) 213)))
 refine (HN.out _ HQ0.out.ps).mono ?_
 rintro e w1 ⟨rfl, hq⟩
 have HQ1 := Lib.hid (HQ0.out.trans hq)
 have HB1 := Lib.hid ((hq.ap.block (k := w.heap.size) (by omega) (by simp)).trans (heap_alloc_new w _))
 clear hq HQ0
 go_wp2_with fail
 refine (where_word w1 HQ1.out.ps.kd).mono ?_
 rintro e w2 ⟨rfl, hb2⟩
 have HB2 := Lib.hid ((hb2.block _ (Array.getElem?_eq_some_iff.1 HB1.out).1).trans HB1.out)
 have HQ2 := Lib.hid (HQ1.out.on hb2)
 clear hb2 HQ1 HB1
 obtain ⟨w3, e3, h3, hb3, e3'⟩ := put_set2 HB2.out Asc.isWord
 have HQ3 := Lib.hid (HQ2.out.far (hb3.mono (Nat.le_refl _)) hbb)
 have HB3 := Lib.hid h3
 have c1 := HQ3.out.ps.c1
 have f1 := HQ3.out.ps.f1
 clear h3 hb3 HQ2 HB2
 go_wp2_with fail
 have h4 : (w3.setCell ⟨b, 1, none⟩ (.int .i64 ((i : Int) + 1))).heap[w.heap.size]? = _ := (Below.heap_setCell _ _ _ w.heap.size (by simp only; omega)).trans HB3.out
 have e4 := put_self h4
 refine wp_load_set _ rfl w.heap.size rfl _ _ h4 ?_
 go_wp2_with fail
 exact ret_set3 rfl h4 rfl rfl ⟨Asc.isWord, 119, false, i + 1, 0, rfl, HQ3.out.trans (HQ3.out.ps.to (i + 1) HL.out), by decide, fits_ok⟩
set_option maxHeartbeats 8000000 in
set_option maxRecDepth 1000000 in
theorem escz_s (b : Nat) (l : List UInt8) (i : Nat) (w : World) (h : ZS b l i 0 w) (hc : Asc.at_ l i = 115) : Calls Tryz.prog 152 #[.pointer (some ⟨b, 0, none⟩)] w (EscZ b l (.ok ((Asc.isSpace, 115, false), i + 1)) w) := by
 have hv := (zero_of_info infoS).1
 have hbb := h.st.lt
 have H := Lib.hid h
 have hl : i < l.length := Asc.at_lt (by omega)
 have hl2 := h.len
 have hw : IntKind.i64.wrap ((i : Int) + 1) = (i : Int) + 1 := IntWalk.i64_in _ (by omega)
 have HL := Lib.hid hl
 have HN := Lib.hid fun W (hW : ZS b l i 0 W) => znext_ok b l i W hW 115 hc (by omega)
 clear hl
 clear h
 go_enter Tryz.func152, Tryz.ntmps152
 go_wp2_with fail
 rw [← setA_false]
 have HQ0 := Lib.hid ((ZQ.refl H.out).on (al_below w (.cells (setA (fun _ => false)) 213)))
 refine (HN.out _ HQ0.out.ps).mono ?_
 rintro e w1 ⟨rfl, hq⟩
 have HQ1 := Lib.hid (HQ0.out.trans hq)
 have HB1 := Lib.hid ((hq.ap.block (k := w.heap.size) (by omega) (by simp)).trans (heap_alloc_new w _))
 clear hq HQ0
 go_wp2_with fail
 refine (where_space w1 HQ1.out.ps.kd).mono ?_
 rintro e w2 ⟨rfl, hb2⟩
 have HB2 := Lib.hid ((hb2.block _ (Array.getElem?_eq_some_iff.1 HB1.out).1).trans HB1.out)
 have HQ2 := Lib.hid (HQ1.out.on hb2)
 clear hb2 HQ1 HB1
 obtain ⟨w3, e3, h3, hb3, e3'⟩ := put_set2 HB2.out Asc.isSpace
 have HQ3 := Lib.hid (HQ2.out.far (hb3.mono (Nat.le_refl _)) hbb)
 have HB3 := Lib.hid h3
 have c1 := HQ3.out.ps.c1
 have f1 := HQ3.out.ps.f1
 clear h3 hb3 HQ2 HB2
 go_wp2_with fail
 have h4 : (w3.setCell ⟨b, 1, none⟩ (.int .i64 ((i : Int) + 1))).heap[w.heap.size]? = _ := (Below.heap_setCell _ _ _ w.heap.size (by simp only; omega)).trans HB3.out
 have e4 := put_self h4
 refine wp_load_set _ rfl w.heap.size rfl _ _ h4 ?_
 go_wp2_with fail
 exact ret_set3 rfl h4 rfl rfl ⟨Asc.isSpace, 115, false, i + 1, 0, rfl, HQ3.out.trans (HQ3.out.ps.to (i + 1) HL.out), by decide, fits_ok⟩
set_option maxHeartbeats 8000000 in
set_option maxRecDepth 1000000 in
theorem escz_n (b : Nat) (l : List UInt8) (i : Nat) (w : World) (h : ZS b l i 0 w) (hc : Asc.at_ l i = 110) : Calls Tryz.prog 152 #[.pointer (some ⟨b, 0, none⟩)] w (EscZ b l (.ok ((spanF 10 11, 10, true), i + 1)) w) := by
 have hv := (zero_of_info infoS).1
 have hbb := h.st.lt
 have H := Lib.hid h
 have hl : i < l.length := Asc.at_lt (by omega)
 have hl2 := h.len
 have hw : IntKind.i64.wrap ((i : Int) + 1) = (i : Int) + 1 := IntWalk.i64_in _ (by omega)
 have HL := Lib.hid hl
 have HN := Lib.hid fun W (hW : ZS b l i 0 W) => znext_ok b l i W hW 110 hc (by omega)
 have HSN := Lib.hid (fun W => (show Calls Tryz.prog 149 #[.int .u8 10, .int .u8 10] W (fun e w' => e = .returned (.agg (setA (spanF 10 11))) ∧ Below W.heap.size W w') from span_any 10 10 W))
 clear hl
 clear h
 go_enter Tryz.func152, Tryz.ntmps152
 go_wp2_with fail
 rw [← setA_false]
 have HQ0 := Lib.hid ((ZQ.refl H.out).on (al_below w (.cells (setA (fun _ => false)) 213)))
 refine (HN.out _ HQ0.out.ps).mono ?_
 rintro e w1 ⟨rfl, hq⟩
 have HQ1 := Lib.hid (HQ0.out.trans hq)
 have HB1 := Lib.hid ((hq.ap.block (k := w.heap.size) (by omega) (by simp)).trans (heap_alloc_new w _))
 clear hq HQ0
 have c1 := HQ1.out.ps.c1
 have f1 := HQ1.out.ps.f1
 go_wp2_with fail
 have HQ2 := Lib.hid (HQ1.out.trans (HQ1.out.ps.to (i + 1) HL.out))
 have HB2 := Lib.hid (show (w1.setCell ⟨b, 1, none⟩ (.int .i64 ((i : Int) + 1))).heap[w.heap.size]? = _ from (Below.heap_setCell _ _ _ w.heap.size (by simp only; omega)).trans HB1.out)
 refine (HSN.out _).mono ?_
 rintro e w3 ⟨rfl, hb3⟩
 have HQ3 := Lib.hid (HQ2.out.on hb3)
 have HB3 := Lib.hid ((hb3.block _ (Array.getElem?_eq_some_iff.1 HB2.out).1).trans HB2.out)
 clear hb3 HQ2 HB2 HQ1 HB1 c1 f1
 obtain ⟨w4, e4, h4, hb4, e4'⟩ := put_set2 HB3.out (spanF 10 11)
 have HQ4 := Lib.hid (HQ3.out.far (hb4.mono (Nat.le_refl _)) hbb)
 clear hb4 HQ3 HB3
 go_wp2_with fail
 refine wp_load_set _ rfl w.heap.size rfl _ _ h4 ?_
 go_wp2_with fail
 exact ret_set3 rfl h4 rfl rfl ⟨(spanF 10 11), 10, true, i + 1, 0, rfl, HQ4.out, by first | decide | omega, fits_ok⟩
set_option maxHeartbeats 8000000 in
set_option maxRecDepth 1000000 in
theorem escz_t (b : Nat) (l : List UInt8) (i : Nat) (w : World) (h : ZS b l i 0 w) (hc : Asc.at_ l i = 116) : Calls Tryz.prog 152 #[.pointer (some ⟨b, 0, none⟩)] w (EscZ b l (.ok ((spanF 9 10, 9, true), i + 1)) w) := by
 have hv := (zero_of_info infoS).1
 have hbb := h.st.lt
 have H := Lib.hid h
 have hl : i < l.length := Asc.at_lt (by omega)
 have hl2 := h.len
 have hw : IntKind.i64.wrap ((i : Int) + 1) = (i : Int) + 1 := IntWalk.i64_in _ (by omega)
 have HL := Lib.hid hl
 have HN := Lib.hid fun W (hW : ZS b l i 0 W) => znext_ok b l i W hW 116 hc (by omega)
 have HSN := Lib.hid (fun W => (show Calls Tryz.prog 149 #[.int .u8 9, .int .u8 9] W (fun e w' => e = .returned (.agg (setA (spanF 9 10))) ∧ Below W.heap.size W w') from span_any 9 9 W))
 clear hl
 clear h
 go_enter Tryz.func152, Tryz.ntmps152
 go_wp2_with fail
 rw [← setA_false]
 have HQ0 := Lib.hid ((ZQ.refl H.out).on (al_below w (.cells (setA (fun _ => false)) 213)))
 refine (HN.out _ HQ0.out.ps).mono ?_
 rintro e w1 ⟨rfl, hq⟩
 have HQ1 := Lib.hid (HQ0.out.trans hq)
 have HB1 := Lib.hid ((hq.ap.block (k := w.heap.size) (by omega) (by simp)).trans (heap_alloc_new w _))
 clear hq HQ0
 have c1 := HQ1.out.ps.c1
 have f1 := HQ1.out.ps.f1
 go_wp2_with fail
 have HQ2 := Lib.hid (HQ1.out.trans (HQ1.out.ps.to (i + 1) HL.out))
 have HB2 := Lib.hid (show (w1.setCell ⟨b, 1, none⟩ (.int .i64 ((i : Int) + 1))).heap[w.heap.size]? = _ from (Below.heap_setCell _ _ _ w.heap.size (by simp only; omega)).trans HB1.out)
 refine (HSN.out _).mono ?_
 rintro e w3 ⟨rfl, hb3⟩
 have HQ3 := Lib.hid (HQ2.out.on hb3)
 have HB3 := Lib.hid ((hb3.block _ (Array.getElem?_eq_some_iff.1 HB2.out).1).trans HB2.out)
 clear hb3 HQ2 HB2 HQ1 HB1 c1 f1
 obtain ⟨w4, e4, h4, hb4, e4'⟩ := put_set2 HB3.out (spanF 9 10)
 have HQ4 := Lib.hid (HQ3.out.far (hb4.mono (Nat.le_refl _)) hbb)
 clear hb4 HQ3 HB3
 go_wp2_with fail
 refine wp_load_set _ rfl w.heap.size rfl _ _ h4 ?_
 go_wp2_with fail
 exact ret_set3 rfl h4 rfl rfl ⟨(spanF 9 10), 9, true, i + 1, 0, rfl, HQ4.out, by first | decide | omega, fits_ok⟩
set_option maxHeartbeats 8000000 in
set_option maxRecDepth 1000000 in
theorem escz_self (b : Nat) (l : List UInt8) (i : Nat) (w : World) (h : ZS b l i 0 w) (c : UInt8) (hc : Asc.at_ l i = c.toNat) (hn1 : c.toNat ≠ 100) (hn2 : c.toNat ≠ 119) (hn3 : c.toNat ≠ 115) (hn4 : c.toNat ≠ 110) (hn5 : c.toNat ≠ 116) (h1 : 32 ≤ c.toNat) (h2 : c.toNat ≤ 126) (h3 : Asc.isLetter c.toNat = false) (h4 : Asc.isDigit c.toNat = false) : Calls Tryz.prog 152 #[.pointer (some ⟨b, 0, none⟩)] w (EscZ b l (.ok ((spanF c.toNat (c.toNat + 1), c.toNat, true), i + 1)) w) := by
 have hv := (zero_of_info infoS).1
 have hbb := h.st.lt
 have H := Lib.hid h
 have hlt8 : c.toNat < 256 := UInt8.toNat_lt c
 have hl : i < l.length := Asc.at_lt (by omega)
 have hl2 := h.len
 have hw : IntKind.i64.wrap ((i : Int) + 1) = (i : Int) + 1 := IntWalk.i64_in _ (by omega)
 have HL := Lib.hid hl
 have HN := Lib.hid fun W (hW : ZS b l i 0 W) => znext_ok b l i W hW c.toNat hc (by omega)
 have z100 : ((c.toNat : Int) == 100) = false := by rw [beq_eq_false_iff_ne]; omega
 have z119 : ((c.toNat : Int) == 119) = false := by rw [beq_eq_false_iff_ne]; omega
 have z115 : ((c.toNat : Int) == 115) = false := by rw [beq_eq_false_iff_ne]; omega
 have z110 : ((c.toNat : Int) == 110) = false := by rw [beq_eq_false_iff_ne]; omega
 have z116 : ((c.toNat : Int) == 116) = false := by rw [beq_eq_false_iff_ne]; omega
 have HPR := Lib.hid fun W => printable_yes c.toNat W h1 h2
 have HLT := Lib.hid fun W (hW : ZS b l i 0 W) => letter_any c.toNat W hlt8 hW.kd
 rw [h3] at HLT
 have HDG := Lib.hid fun W (hW : ZS b l i 0 W) => digit_any c.toNat W hlt8 hW.kd
 rw [h4] at HDG
 have HSN := Lib.hid fun W => span_any c c W
 have HC8 := Lib.hid hlt8
 clear hl hc hn1 hn2 hn3 hn4 hn5 h1 h2 h3 h4 hlt8
 obtain ⟨f, hf⟩ : ∃ f, spanF c.toNat (c.toNat + 1) = f := ⟨_, rfl⟩
 rw [hf] at HSN ⊢
 clear hf
 clear h
 go_enter Tryz.func152, Tryz.ntmps152
 go_wp2_with fail
 rw [← setA_false]
 have HQ0 := Lib.hid ((ZQ.refl H.out).on (al_below w (.cells (setA (fun _ => false)) 213)))
 refine (HN.out _ HQ0.out.ps).mono ?_
 rintro e w1 ⟨rfl, hq⟩
 have HQ1 := Lib.hid (HQ0.out.trans hq)
 have HB1 := Lib.hid ((hq.ap.block (k := w.heap.size) (by omega) (by simp)).trans (heap_alloc_new w _))
 clear hq HQ0
 have c1 := HQ1.out.ps.c1
 have f1 := HQ1.out.ps.f1
 go_wp2_with fail
 refine (HPR.out _).mono ?_
 rintro e wp ⟨rfl, rfl⟩
 go_wp2_with fail
 refine (HLT.out _ HQ1.out.ps).mono ?_
 rintro e wp ⟨rfl, rfl⟩
 go_wp2_with fail
 refine (HDG.out _ HQ1.out.ps).mono ?_
 rintro e wp ⟨rfl, rfl⟩
 go_wp2_with fail
 have HQ2 := Lib.hid (HQ1.out.trans (HQ1.out.ps.to (i + 1) HL.out))
 have HB2 := Lib.hid (show (w1.setCell ⟨b, 1, none⟩ (.int .i64 ((i : Int) + 1))).heap[w.heap.size]? = _ from (Below.heap_setCell _ _ _ w.heap.size (by simp only; omega)).trans HB1.out)
 refine (HSN.out _).mono ?_
 rintro e w3 ⟨rfl, hb3⟩
 have HQ3 := Lib.hid (HQ2.out.on hb3)
 have HB3 := Lib.hid ((hb3.block _ (Array.getElem?_eq_some_iff.1 HB2.out).1).trans HB2.out)
 clear hb3 HQ2 HB2 HQ1 HB1 c1 f1
 obtain ⟨w4, e4, h4, hb4, e4'⟩ := put_set2 HB3.out f
 have HQ4 := Lib.hid (HQ3.out.far (hb4.mono (Nat.le_refl _)) hbb)
 clear hb4 HQ3 HB3
 go_wp2_with fail
 refine wp_load_set _ rfl w.heap.size rfl _ _ h4 ?_
 go_wp2_with fail
 exact ret_set3 rfl h4 rfl rfl ⟨f, c.toNat, true, i + 1, 0, rfl, HQ4.out, HC8.out, fits_ok⟩
set_option maxHeartbeats 8000000 in
set_option maxRecDepth 1000000 in
theorem escz_end (b : Nat) (l : List UInt8) (i : Nat) (w : World) (h : ZS b l i 0 w) (hc : Asc.at_ l i = 999) : Calls Tryz.prog 152 #[.pointer (some ⟨b, 0, none⟩)] w (EscZ b l (.error (i, 1)) w) := by
 have hv := (zero_of_info infoS).1
 have hbb := h.st.lt
 have H := Lib.hid h
 have HN := Lib.hid fun W (hW : ZS b l i 0 W) => znext_no b l i 0 W hW hc
 have HF := Lib.hid fun W (hW : ZS b l i 0 W) => zfail b l i 0 1 W hW
 rw [if_pos rfl] at HF
 clear h
 go_enter Tryz.func152, Tryz.ntmps152
 go_wp2_with fail
 rw [← setA_false]
 have HQ0 := Lib.hid ((ZQ.refl H.out).on (al_below w (.cells (setA (fun _ => false)) 213)))
 refine (HN.out _ HQ0.out.ps).mono ?_
 rintro e w1 ⟨rfl, hq⟩
 have HQ1 := Lib.hid (HQ0.out.trans hq)
 have HB1 := Lib.hid ((hq.ap.block (k := w.heap.size) (by omega) (by simp)).trans (heap_alloc_new w _))
 clear hq HQ0
 go_wp2_with fail
 refine (HF.out _ HQ1.out.ps).mono ?_
 rintro e w2 ⟨rfl, hq⟩
 have HQ2 := Lib.hid (HQ1.out.trans hq)
 have h2 := (hq.ap.block (k := w.heap.size) (by omega) (Array.getElem?_eq_some_iff.1 HB1.out).1).trans HB1.out
 have e2 := put_self h2
 clear hq HQ1 HB1
 go_wp2_with fail
 refine wp_load_set _ rfl w.heap.size rfl _ _ h2 ?_
 go_wp2_with fail
 exact ret_set3 rfl h2 rfl rfl ⟨_, 0, false, i, 1, rfl, HQ2.out, by decide, fits_err (by decide)⟩
set_option maxHeartbeats 8000000 in
set_option maxRecDepth 1000000 in
theorem escz_odd (b : Nat) (l : List UInt8) (i : Nat) (w : World) (h : ZS b l i 0 w) (c : UInt8) (hc : Asc.at_ l i = c.toNat) (h1 : c.toNat < 32 ∨ 126 < c.toNat) : Calls Tryz.prog 152 #[.pointer (some ⟨b, 0, none⟩)] w (EscZ b l (.error (i, 1)) w) := by
 have hv := (zero_of_info infoS).1
 have hbb := h.st.lt
 have H := Lib.hid h
 have hlt8 : c.toNat < 256 := UInt8.toNat_lt c
 have HN := Lib.hid fun W (hW : ZS b l i 0 W) => znext_ok b l i W hW c.toNat hc (by omega)
 have z100 : ((c.toNat : Int) == 100) = false := by rw [beq_eq_false_iff_ne]; omega
 have z119 : ((c.toNat : Int) == 119) = false := by rw [beq_eq_false_iff_ne]; omega
 have z115 : ((c.toNat : Int) == 115) = false := by rw [beq_eq_false_iff_ne]; omega
 have z110 : ((c.toNat : Int) == 110) = false := by rw [beq_eq_false_iff_ne]; omega
 have z116 : ((c.toNat : Int) == 116) = false := by rw [beq_eq_false_iff_ne]; omega
 have HF := Lib.hid fun W (hW : ZS b l i 0 W) => zfail b l i 0 1 W hW
 rw [if_pos rfl] at HF
 have HPR := Lib.hid fun W => printable_no c.toNat W h1
 clear hc h1 hlt8
 clear h
 go_enter Tryz.func152, Tryz.ntmps152
 go_wp2_with fail
 rw [← setA_false]
 have HQ0 := Lib.hid ((ZQ.refl H.out).on (al_below w (.cells (setA (fun _ => false)) 213)))
 refine (HN.out _ HQ0.out.ps).mono ?_
 rintro e w1 ⟨rfl, hq⟩
 have HQ1 := Lib.hid (HQ0.out.trans hq)
 have HB1 := Lib.hid ((hq.ap.block (k := w.heap.size) (by omega) (by simp)).trans (heap_alloc_new w _))
 clear hq HQ0
 go_wp2_with fail
 refine (HPR.out _).mono ?_
 rintro e wp ⟨rfl, rfl⟩
 go_wp2_with fail
 refine (HF.out _ HQ1.out.ps).mono ?_
 rintro e w2 ⟨rfl, hq⟩
 have HQ2 := Lib.hid (HQ1.out.trans hq)
 have h2 := (hq.ap.block (k := w.heap.size) (by omega) (Array.getElem?_eq_some_iff.1 HB1.out).1).trans HB1.out
 have e2 := put_self h2
 clear hq HQ1 HB1
 go_wp2_with fail
 refine wp_load_set _ rfl w.heap.size rfl _ _ h2 ?_
 go_wp2_with fail
 exact ret_set3 rfl h2 rfl rfl ⟨_, 0, false, i, 1, rfl, HQ2.out, by decide, fits_err (by decide)⟩
set_option maxHeartbeats 8000000 in
set_option maxRecDepth 1000000 in
theorem escz_letter (b : Nat) (l : List UInt8) (i : Nat) (w : World) (h : ZS b l i 0 w) (c : UInt8) (hc : Asc.at_ l i = c.toNat) (hn1 : c.toNat ≠ 100) (hn2 : c.toNat ≠ 119) (hn3 : c.toNat ≠ 115) (hn4 : c.toNat ≠ 110) (hn5 : c.toNat ≠ 116) (h1 : 32 ≤ c.toNat) (h2 : c.toNat ≤ 126) (h3 : Asc.isLetter c.toNat = true) : Calls Tryz.prog 152 #[.pointer (some ⟨b, 0, none⟩)] w (EscZ b l (.error (i, 1)) w) := by
 have hv := (zero_of_info infoS).1
 have hbb := h.st.lt
 have H := Lib.hid h
 have hlt8 : c.toNat < 256 := UInt8.toNat_lt c
 have HN := Lib.hid fun W (hW : ZS b l i 0 W) => znext_ok b l i W hW c.toNat hc (by omega)
 have z100 : ((c.toNat : Int) == 100) = false := by rw [beq_eq_false_iff_ne]; omega
 have z119 : ((c.toNat : Int) == 119) = false := by rw [beq_eq_false_iff_ne]; omega
 have z115 : ((c.toNat : Int) == 115) = false := by rw [beq_eq_false_iff_ne]; omega
 have z110 : ((c.toNat : Int) == 110) = false := by rw [beq_eq_false_iff_ne]; omega
 have z116 : ((c.toNat : Int) == 116) = false := by rw [beq_eq_false_iff_ne]; omega
 have HF := Lib.hid fun W (hW : ZS b l i 0 W) => zfail b l i 0 1 W hW
 rw [if_pos rfl] at HF
 have HPR := Lib.hid fun W => printable_yes c.toNat W h1 h2
 have HLT := Lib.hid fun W (hW : ZS b l i 0 W) => letter_any c.toNat W hlt8 hW.kd
 rw [h3] at HLT
 clear hc hn1 hn2 hn3 hn4 hn5 h1 h2 h3 hlt8
 clear h
 go_enter Tryz.func152, Tryz.ntmps152
 go_wp2_with fail
 rw [← setA_false]
 have HQ0 := Lib.hid ((ZQ.refl H.out).on (al_below w (.cells (setA (fun _ => false)) 213)))
 refine (HN.out _ HQ0.out.ps).mono ?_
 rintro e w1 ⟨rfl, hq⟩
 have HQ1 := Lib.hid (HQ0.out.trans hq)
 have HB1 := Lib.hid ((hq.ap.block (k := w.heap.size) (by omega) (by simp)).trans (heap_alloc_new w _))
 clear hq HQ0
 go_wp2_with fail
 refine (HPR.out _).mono ?_
 rintro e wp ⟨rfl, rfl⟩
 go_wp2_with fail
 refine (HLT.out _ HQ1.out.ps).mono ?_
 rintro e wp ⟨rfl, rfl⟩
 go_wp2_with fail
 refine (HF.out _ HQ1.out.ps).mono ?_
 rintro e w2 ⟨rfl, hq⟩
 have HQ2 := Lib.hid (HQ1.out.trans hq)
 have h2 := (hq.ap.block (k := w.heap.size) (by omega) (Array.getElem?_eq_some_iff.1 HB1.out).1).trans HB1.out
 have e2 := put_self h2
 clear hq HQ1 HB1
 go_wp2_with fail
 refine wp_load_set _ rfl w.heap.size rfl _ _ h2 ?_
 go_wp2_with fail
 exact ret_set3 rfl h2 rfl rfl ⟨_, 0, false, i, 1, rfl, HQ2.out, by decide, fits_err (by decide)⟩
set_option maxHeartbeats 8000000 in
set_option maxRecDepth 1000000 in
theorem escz_digit (b : Nat) (l : List UInt8) (i : Nat) (w : World) (h : ZS b l i 0 w) (c : UInt8) (hc : Asc.at_ l i = c.toNat) (hn1 : c.toNat ≠ 100) (hn2 : c.toNat ≠ 119) (hn3 : c.toNat ≠ 115) (hn4 : c.toNat ≠ 110) (hn5 : c.toNat ≠ 116) (h1 : 32 ≤ c.toNat) (h2 : c.toNat ≤ 126) (h3 : Asc.isLetter c.toNat = false) (h4 : Asc.isDigit c.toNat = true) : Calls Tryz.prog 152 #[.pointer (some ⟨b, 0, none⟩)] w (EscZ b l (.error (i, 1)) w) := by
 have hv := (zero_of_info infoS).1
 have hbb := h.st.lt
 have H := Lib.hid h
 have hlt8 : c.toNat < 256 := UInt8.toNat_lt c
 have HN := Lib.hid fun W (hW : ZS b l i 0 W) => znext_ok b l i W hW c.toNat hc (by omega)
 have z100 : ((c.toNat : Int) == 100) = false := by rw [beq_eq_false_iff_ne]; omega
 have z119 : ((c.toNat : Int) == 119) = false := by rw [beq_eq_false_iff_ne]; omega
 have z115 : ((c.toNat : Int) == 115) = false := by rw [beq_eq_false_iff_ne]; omega
 have z110 : ((c.toNat : Int) == 110) = false := by rw [beq_eq_false_iff_ne]; omega
 have z116 : ((c.toNat : Int) == 116) = false := by rw [beq_eq_false_iff_ne]; omega
 have HF := Lib.hid fun W (hW : ZS b l i 0 W) => zfail b l i 0 1 W hW
 rw [if_pos rfl] at HF
 have HPR := Lib.hid fun W => printable_yes c.toNat W h1 h2
 have HLT := Lib.hid fun W (hW : ZS b l i 0 W) => letter_any c.toNat W hlt8 hW.kd
 rw [h3] at HLT
 have HDG := Lib.hid fun W (hW : ZS b l i 0 W) => digit_any c.toNat W hlt8 hW.kd
 rw [h4] at HDG
 clear hc hn1 hn2 hn3 hn4 hn5 h1 h2 h3 h4 hlt8
 clear h
 go_enter Tryz.func152, Tryz.ntmps152
 go_wp2_with fail
 rw [← setA_false]
 have HQ0 := Lib.hid ((ZQ.refl H.out).on (al_below w (.cells (setA (fun _ => false)) 213)))
 refine (HN.out _ HQ0.out.ps).mono ?_
 rintro e w1 ⟨rfl, hq⟩
 have HQ1 := Lib.hid (HQ0.out.trans hq)
 have HB1 := Lib.hid ((hq.ap.block (k := w.heap.size) (by omega) (by simp)).trans (heap_alloc_new w _))
 clear hq HQ0
 go_wp2_with fail
 refine (HPR.out _).mono ?_
 rintro e wp ⟨rfl, rfl⟩
 go_wp2_with fail
 refine (HLT.out _ HQ1.out.ps).mono ?_
 rintro e wp ⟨rfl, rfl⟩
 go_wp2_with fail
 refine (HDG.out _ HQ1.out.ps).mono ?_
 rintro e wp ⟨rfl, rfl⟩
 go_wp2_with fail
 refine (HF.out _ HQ1.out.ps).mono ?_
 rintro e w2 ⟨rfl, hq⟩
 have HQ2 := Lib.hid (HQ1.out.trans hq)
 have h2 := (hq.ap.block (k := w.heap.size) (by omega) (Array.getElem?_eq_some_iff.1 HB1.out).1).trans HB1.out
 have e2 := put_self h2
 clear hq HQ1 HB1
 go_wp2_with fail
 refine wp_load_set _ rfl w.heap.size rfl _ _ h2 ?_
 go_wp2_with fail
 exact ret_set3 rfl h2 rfl rfl ⟨_, 0, false, i, 1, rfl, HQ2.out, by decide, fits_err (by decide)⟩
theorem esc_any (b : Nat) (l : List UInt8) (i : Nat) (w : World) (h : ZS b l i 0 w) : Calls Tryz.prog 152 #[.pointer (some ⟨b, 0, none⟩)] w (EscZ b l (escM l i) w) := by
 unfold escM
 by_cases h1 : Asc.at_ l i = 100
 ·rw [if_pos h1]
  exact escz_d b l i w h h1
 rw [if_neg h1]
 by_cases h2 : Asc.at_ l i = 119
 ·rw [if_pos h2]
  exact escz_w b l i w h h2
 rw [if_neg h2]
 by_cases h3 : Asc.at_ l i = 115
 ·rw [if_pos h3]
  exact escz_s b l i w h h3
 rw [if_neg h3]
 by_cases h4 : Asc.at_ l i = 110
 ·rw [if_pos h4]
  exact escz_n b l i w h h4
 rw [if_neg h4]
 by_cases h5 : Asc.at_ l i = 116
 ·rw [if_pos h5]
  exact escz_t b l i w h h5
 rw [if_neg h5]
 by_cases h6 : selfE (Asc.at_ l i) = true
 ·rw [if_pos h6]
  simp only [selfE, Bool.and_eq_true, decide_eq_true_eq, Bool.not_eq_true'] at h6
  obtain ⟨⟨⟨ha, hb⟩, hd⟩, he⟩ := h6
  obtain ⟨c, hc⟩ := at_u8 (l := l) (i := i) (by omega)
  rw [hc] at h1 h2 h3 h4 h5 ha hb hd he ⊢
  exact escz_self b l i w h c hc h1 h2 h3 h4 h5 ha hb hd he
 rw [if_neg h6]
 rcases at_two l i with h9 | h9
 ·obtain ⟨c, hc⟩ := at_u8 (l := l) (i := i) h9
  rw [hc] at h1 h2 h3 h4 h5 h6
  by_cases ha : c.toNat < 32 ∨ 126 < c.toNat
  ·exact escz_odd b l i w h c hc ha
  ·have ha1 : 32 ≤ c.toNat := by omega
   have ha2 : c.toNat ≤ 126 := by omega
   cases hd : Asc.isLetter c.toNat with
   | true => exact escz_letter b l i w h c hc h1 h2 h3 h4 h5 ha1 ha2 hd
   | false =>
    cases he : Asc.isDigit c.toNat with
    | true => exact escz_digit b l i w h c hc h1 h2 h3 h4 h5 ha1 ha2 hd he
    | false => exact absurd (by simp [selfE, ha1, ha2, hd, he]) h6
 ·exact escz_end b l i w h h9
end Go.Proofs.YtmpbjaodgajnfaaGreatDoor
namespace Go.Proofs.YtmpbjaodgajnfaaGreatDoor
open Go.RowKit
def dwsL : List UInt8 := [100, 119, 115]
theorem itz_ret {fn : Func} {p t u : Tmp} (hfn : fn.results = #[.cell p 213, .tmp t, .tmp u]) {w W : World} {f : Nat → Bool} (hg : W.heap[w.heap.size]? = some (.cells (setA f) 213 (0, 0))) {tmps : Array Value} (hp : tmps.getD p undef = .pointer (some ⟨w.heap.size, 0, none⟩)) {b : Nat} {l : List UInt8} {r : Out ((Nat → Bool) × Nat × Bool)} {c : Nat} {one : Bool} {j e : Nat}
  (h1 : tmps.getD t undef = .int .u8 (c : Int)) (h2 : tmps.getD u undef = .bool one) (hq : ZQ b l j e w W) (hc : c < 256) (hr : fits r (f, c, one) j e) : bodyPost Tryz.prog fn (EscZ b l r w) Exit.ret { tmps := tmps, defers := [] } W :=
 ret_set3 hfn hg rfl hp ⟨f, c, one, j, e, by rw [h1, h2], hq, hc, hr⟩
set_option maxHeartbeats 8000000 in
set_option maxRecDepth 1000000 in
theorem itz_bend (b : Nat) (l : List UInt8) (i : Nat) (sg : Bool) (w : World) (h : ZS b l i 0 w) (hc : Asc.at_ l i = 92) (hx : Asc.at_ l (i + 1) = 999) : Calls Tryz.prog 166 #[.pointer (some ⟨b, 0, none⟩), .bool sg] w (EscZ b l (escM l (i + 1)) w) := by
 have hv := (zero_of_info infoS).1
 have hbb := h.st.lt
 have H := Lib.hid h
 have HT := Lib.hid fun W (hW : ZS b l i 0 W) => ztakes_yes b l i W hW 92 hc (by decide)
 have hi1 : i < l.length := Asc.at_lt (by omega)
 have HN := Lib.hid fun W (hW : ZS b l (i + 1) 0 W) => znext_no b l (i + 1) 0 W hW hx
 have HE := Lib.hid fun W (hW : ZS b l (i + 1) 0 W) => esc_any b l (i + 1) W hW
 clear hc hx
 clear h
 go_enter Tryz.func166, Tryz.ntmps166
 go_wp2_with fail
 rw [← setA_false]
 have HQ0 := Lib.hid ((ZQ.refl H.out).on (al_below w (.cells (setA (fun _ => false)) 213)))
 have HB0 := Lib.hid (heap_alloc_new w (.cells (setA (fun _ => false)) 213))
 have hg0 : w.heap.size < (w.alloc (.cells (setA (fun _ => false)) 213)).heap.size := by simp
 refine (HT.out _ HQ0.out.ps).mono ?_
 rintro e w1 ⟨rfl, hq⟩
 have HQ1 := Lib.hid (HQ0.out.trans hq)
 have HB1 := Lib.hid ((hq.ap.block (k := w.heap.size) (by omega) (Array.getElem?_eq_some_iff.1 HB0.out).1).trans HB0.out)
 clear hq HQ0 HB0
 go_wp2_with fail
 refine (HN.out _ HQ1.out.ps).mono ?_
 rintro e w2 ⟨rfl, hq⟩
 have HQ2 := Lib.hid (HQ1.out.trans hq)
 have HB2 := Lib.hid ((hq.ap.block (k := w.heap.size) (by omega) (Array.getElem?_eq_some_iff.1 HB1.out).1).trans HB1.out)
 clear hq HQ1 HB1
 go_wp2_with fail
 refine (HE.out _ HQ2.out.ps).mono ?_
 rintro e w3 ⟨f, c, one, j, e, rfl, hq, hc8, hr⟩
 have HQ3 := Lib.hid (HQ2.out.trans hq)
 have HB3 := Lib.hid ((hq.ap.block (k := w.heap.size) (by omega) (Array.getElem?_eq_some_iff.1 HB2.out).1).trans HB2.out)
 clear hq HQ2 HB2
 obtain ⟨w9, e9, h9, hb9, e9'⟩ := put_set2 HB3.out f
 have HQ9 := Lib.hid (HQ3.out.far (hb9.mono (Nat.le_refl _)) hbb)
 clear hb9
 go_wp2_with fail
 exact itz_ret rfl h9 rfl rfl rfl HQ9.out hc8 hr
set_option maxHeartbeats 8000000 in
set_option maxRecDepth 1000000 in
theorem itz_bany (b : Nat) (l : List UInt8) (i : Nat) (w : World) (h : ZS b l i 0 w) (hc : Asc.at_ l i = 92) (x : UInt8) (hx : Asc.at_ l (i + 1) = x.toNat) : Calls Tryz.prog 166 #[.pointer (some ⟨b, 0, none⟩), .bool false] w (EscZ b l (escM l (i + 1)) w) := by
 have hv := (zero_of_info infoS).1
 have hbb := h.st.lt
 have H := Lib.hid h
 have HT := Lib.hid fun W (hW : ZS b l i 0 W) => ztakes_yes b l i W hW 92 hc (by decide)
 have hi1 : i < l.length := Asc.at_lt (by omega)
 have hx8 : x.toNat < 256 := UInt8.toNat_lt x
 have HN := Lib.hid fun W (hW : ZS b l (i + 1) 0 W) => znext_ok b l (i + 1) W hW x.toNat hx hx8
 have HE := Lib.hid fun W (hW : ZS b l (i + 1) 0 W) => esc_any b l (i + 1) W hW
 clear hc hx
 clear h
 go_enter Tryz.func166, Tryz.ntmps166
 go_wp2_with fail
 rw [← setA_false]
 have HQ0 := Lib.hid ((ZQ.refl H.out).on (al_below w (.cells (setA (fun _ => false)) 213)))
 have HB0 := Lib.hid (heap_alloc_new w (.cells (setA (fun _ => false)) 213))
 have hg0 : w.heap.size < (w.alloc (.cells (setA (fun _ => false)) 213)).heap.size := by simp
 refine (HT.out _ HQ0.out.ps).mono ?_
 rintro e w1 ⟨rfl, hq⟩
 have HQ1 := Lib.hid (HQ0.out.trans hq)
 have HB1 := Lib.hid ((hq.ap.block (k := w.heap.size) (by omega) (Array.getElem?_eq_some_iff.1 HB0.out).1).trans HB0.out)
 clear hq HQ0 HB0
 go_wp2_with fail
 refine (HN.out _ HQ1.out.ps).mono ?_
 rintro e w2 ⟨rfl, hq⟩
 have HQ2 := Lib.hid (HQ1.out.trans hq)
 have HB2 := Lib.hid ((hq.ap.block (k := w.heap.size) (by omega) (Array.getElem?_eq_some_iff.1 HB1.out).1).trans HB1.out)
 clear hq HQ1 HB1
 go_wp2_with fail
 refine (HE.out _ HQ2.out.ps).mono ?_
 rintro e w3 ⟨f, c, one, j, e, rfl, hq, hc8, hr⟩
 have HQ3 := Lib.hid (HQ2.out.trans hq)
 have HB3 := Lib.hid ((hq.ap.block (k := w.heap.size) (by omega) (Array.getElem?_eq_some_iff.1 HB2.out).1).trans HB2.out)
 clear hq HQ2 HB2
 obtain ⟨w9, e9, h9, hb9, e9'⟩ := put_set2 HB3.out f
 have HQ9 := Lib.hid (HQ3.out.far (hb9.mono (Nat.le_refl _)) hbb)
 clear hb9
 go_wp2_with fail
 exact itz_ret rfl h9 rfl rfl rfl HQ9.out hc8 hr
set_option maxHeartbeats 8000000 in
set_option maxRecDepth 1000000 in
theorem itz_bone (b : Nat) (l : List UInt8) (i : Nat) (w : World) (h : ZS b l i 0 w) (hc : Asc.at_ l i = 92) (x : UInt8) (hx : Asc.at_ l (i + 1) = x.toNat) (hn : x ∉ dwsL) : Calls Tryz.prog 166 #[.pointer (some ⟨b, 0, none⟩), .bool true] w (EscZ b l (escM l (i + 1)) w) := by
 have hv := (zero_of_info infoS).1
 have hbb := h.st.lt
 have H := Lib.hid h
 have HT := Lib.hid fun W (hW : ZS b l i 0 W) => ztakes_yes b l i W hW 92 hc (by decide)
 have hi1 : i < l.length := Asc.at_lt (by omega)
 have hx8 : x.toNat < 256 := UInt8.toNat_lt x
 have HN := Lib.hid fun W (hW : ZS b l (i + 1) 0 W) => znext_ok b l (i + 1) W hW x.toNat hx hx8
 have HE := Lib.hid fun W (hW : ZS b l (i + 1) 0 W) => esc_any b l (i + 1) W hW
 have HI := Lib.hid fun W => (show Calls Tryz.prog 154 #[.string ⟨#[100, 119, 115]⟩, .int .u8 (x.toNat : Int)] W _ from ib_no dwsL x W hn)
 clear hc hx hn
 clear h
 go_enter Tryz.func166, Tryz.ntmps166
 go_wp2_with fail
 rw [← setA_false]
 have HQ0 := Lib.hid ((ZQ.refl H.out).on (al_below w (.cells (setA (fun _ => false)) 213)))
 have HB0 := Lib.hid (heap_alloc_new w (.cells (setA (fun _ => false)) 213))
 have hg0 : w.heap.size < (w.alloc (.cells (setA (fun _ => false)) 213)).heap.size := by simp
 refine (HT.out _ HQ0.out.ps).mono ?_
 rintro e w1 ⟨rfl, hq⟩
 have HQ1 := Lib.hid (HQ0.out.trans hq)
 have HB1 := Lib.hid ((hq.ap.block (k := w.heap.size) (by omega) (Array.getElem?_eq_some_iff.1 HB0.out).1).trans HB0.out)
 clear hq HQ0 HB0
 go_wp2_with fail
 refine (HN.out _ HQ1.out.ps).mono ?_
 rintro e w2 ⟨rfl, hq⟩
 have HQ2 := Lib.hid (HQ1.out.trans hq)
 have HB2 := Lib.hid ((hq.ap.block (k := w.heap.size) (by omega) (Array.getElem?_eq_some_iff.1 HB1.out).1).trans HB1.out)
 clear hq HQ1 HB1
 go_wp2_with fail
 refine (HI.out _).mono ?_
 rintro e wp ⟨rfl, rfl⟩
 go_wp2_with fail
 refine (HE.out _ HQ2.out.ps).mono ?_
 rintro e w3 ⟨f, c, one, j, e, rfl, hq, hc8, hr⟩
 have HQ3 := Lib.hid (HQ2.out.trans hq)
 have HB3 := Lib.hid ((hq.ap.block (k := w.heap.size) (by omega) (Array.getElem?_eq_some_iff.1 HB2.out).1).trans HB2.out)
 clear hq HQ2 HB2
 obtain ⟨w9, e9, h9, hb9, e9'⟩ := put_set2 HB3.out f
 have HQ9 := Lib.hid (HQ3.out.far (hb9.mono (Nat.le_refl _)) hbb)
 clear hb9
 go_wp2_with fail
 exact itz_ret rfl h9 rfl rfl rfl HQ9.out hc8 hr
set_option maxHeartbeats 8000000 in
set_option maxRecDepth 1000000 in
theorem itz_bset (b : Nat) (l : List UInt8) (i : Nat) (w : World) (h : ZS b l i 0 w) (hc : Asc.at_ l i = 92) (x : UInt8) (hx : Asc.at_ l (i + 1) = x.toNat) (hn : x ∈ dwsL) : Calls Tryz.prog 166 #[.pointer (some ⟨b, 0, none⟩), .bool true] w (EscZ b l (.error (i, 1)) w) := by
 have hv := (zero_of_info infoS).1
 have hbb := h.st.lt
 have H := Lib.hid h
 have HT := Lib.hid fun W (hW : ZS b l i 0 W) => ztakes_yes b l i W hW 92 hc (by decide)
 have hi1 : i < l.length := Asc.at_lt (by omega)
 have hx8 : x.toNat < 256 := UInt8.toNat_lt x
 have hl2 := h.len
 have hw : IntKind.i64.wrap (((i + 1 : Nat) : Int) - 1) = (i : Int) := by rw [show ((i + 1 : Nat) : Int) - 1 = (i : Int) by omega]; exact IntWalk.i64_in _ (by omega)
 have HN := Lib.hid fun W (hW : ZS b l (i + 1) 0 W) => znext_ok b l (i + 1) W hW x.toNat hx hx8
 have HF := Lib.hid fun W (hW : ZS b l i 0 W) => zfail b l i 0 1 W hW
 rw [if_pos rfl] at HF
 have HI := Lib.hid fun W => (show Calls Tryz.prog 154 #[.string ⟨#[100, 119, 115]⟩, .int .u8 (x.toNat : Int)] W _ from ib_yes dwsL x W hn)
 obtain ⟨K, hK⟩ : ∃ K, Asc.pos dwsL x = K := ⟨_, rfl⟩
 rw [hK] at HI
 have z0 : decide ((0 : Int) ≤ (K : Int)) = true := decide_eq_true (by omega)
 clear hK
 have HLE := Lib.hid (Nat.le_of_lt hi1)
 clear hc hx hn
 clear h
 go_enter Tryz.func166, Tryz.ntmps166
 go_wp2_with fail
 rw [← setA_false]
 have HQ0 := Lib.hid ((ZQ.refl H.out).on (al_below w (.cells (setA (fun _ => false)) 213)))
 have HB0 := Lib.hid (heap_alloc_new w (.cells (setA (fun _ => false)) 213))
 have hg0 : w.heap.size < (w.alloc (.cells (setA (fun _ => false)) 213)).heap.size := by simp
 refine (HT.out _ HQ0.out.ps).mono ?_
 rintro e w1 ⟨rfl, hq⟩
 have HQ1 := Lib.hid (HQ0.out.trans hq)
 have HB1 := Lib.hid ((hq.ap.block (k := w.heap.size) (by omega) (Array.getElem?_eq_some_iff.1 HB0.out).1).trans HB0.out)
 clear hq HQ0 HB0
 go_wp2_with fail
 refine (HN.out _ HQ1.out.ps).mono ?_
 rintro e w2 ⟨rfl, hq⟩
 have HQ2 := Lib.hid (HQ1.out.trans hq)
 have HB2 := Lib.hid ((hq.ap.block (k := w.heap.size) (by omega) (Array.getElem?_eq_some_iff.1 HB1.out).1).trans HB1.out)
 clear hq HQ1 HB1
 have c1 := HQ2.out.ps.c1
 have f1 := HQ2.out.ps.f1
 go_wp2_with fail
 refine (HI.out _).mono ?_
 rintro e wp ⟨rfl, rfl⟩
 go_wp2_with fail
 have HQ3 := Lib.hid (HQ2.out.trans (HQ2.out.ps.to i HLE.out))
 have HB3 := Lib.hid (show (w2.setCell ⟨b, 1, none⟩ (.int .i64 (i : Int))).heap[w.heap.size]? = _ from (Below.heap_setCell _ _ _ w.heap.size (by simp only; omega)).trans HB2.out)
 clear HQ2 HB2 c1 f1
 refine (HF.out _ HQ3.out.ps).mono ?_
 rintro e w8 ⟨rfl, hq⟩
 have HQ8 := Lib.hid (HQ3.out.trans hq)
 have h8 := (hq.ap.block (k := w.heap.size) (by omega) (Array.getElem?_eq_some_iff.1 HB3.out).1).trans HB3.out
 have e8 := put_self h8
 clear hq HQ3 HB3
 go_wp2_with fail
 refine wp_load_set _ rfl w.heap.size rfl _ _ h8 ?_
 go_wp2_with fail
 exact itz_ret rfl h8 rfl rfl rfl HQ8.out (by decide) (fits_err (by decide))
set_option maxHeartbeats 8000000 in
set_option maxRecDepth 1000000 in
theorem itz_end (b : Nat) (l : List UInt8) (i : Nat) (sg : Bool) (w : World) (h : ZS b l i 0 w) (hc : Asc.at_ l i = 999) : Calls Tryz.prog 166 #[.pointer (some ⟨b, 0, none⟩), .bool sg] w (EscZ b l (.error (i, 1)) w) := by
 have hv := (zero_of_info infoS).1
 have hbb := h.st.lt
 have H := Lib.hid h
 have hc0 : nxN l i 0 ≠ 92 := by rw [nxN_ok, hc]; decide
 have HT := Lib.hid fun W (hW : ZS b l i 0 W) => ztakes_no b l i 0 W hW 92 hc0
 have HN := Lib.hid fun W (hW : ZS b l i 0 W) => znext_no b l i 0 W hW hc
 have HF := Lib.hid fun W (hW : ZS b l i 0 W) => zfail b l i 0 1 W hW
 rw [if_pos rfl] at HF
 clear hc hc0
 clear h
 go_enter Tryz.func166, Tryz.ntmps166
 go_wp2_with fail
 rw [← setA_false]
 have HQ0 := Lib.hid ((ZQ.refl H.out).on (al_below w (.cells (setA (fun _ => false)) 213)))
 have HB0 := Lib.hid (heap_alloc_new w (.cells (setA (fun _ => false)) 213))
 have hg0 : w.heap.size < (w.alloc (.cells (setA (fun _ => false)) 213)).heap.size := by simp
 refine (HT.out _ HQ0.out.ps).mono ?_
 rintro e w1 ⟨rfl, hq⟩
 have HQ1 := Lib.hid (HQ0.out.trans hq)
 have HB1 := Lib.hid ((hq.ap.block (k := w.heap.size) (by omega) (Array.getElem?_eq_some_iff.1 HB0.out).1).trans HB0.out)
 clear hq HQ0 HB0
 go_wp2_with fail
 refine (HN.out _ HQ1.out.ps).mono ?_
 rintro e w2 ⟨rfl, hq⟩
 have HQ2 := Lib.hid (HQ1.out.trans hq)
 have HB2 := Lib.hid ((hq.ap.block (k := w.heap.size) (by omega) (Array.getElem?_eq_some_iff.1 HB1.out).1).trans HB1.out)
 clear hq HQ1 HB1
 go_wp2_with fail
 refine (HF.out _ HQ2.out.ps).mono ?_
 rintro e w8 ⟨rfl, hq⟩
 have HQ8 := Lib.hid (HQ2.out.trans hq)
 have h8 := (hq.ap.block (k := w.heap.size) (by omega) (Array.getElem?_eq_some_iff.1 HB2.out).1).trans HB2.out
 have e8 := put_self h8
 clear hq HQ2 HB2
 go_wp2_with fail
 refine wp_load_set _ rfl w.heap.size rfl _ _ h8 ?_
 go_wp2_with fail
 exact itz_ret rfl h8 rfl rfl rfl HQ8.out (by decide) (fits_err (by decide))
set_option maxHeartbeats 8000000 in
set_option maxRecDepth 1000000 in
theorem itz_odd (b : Nat) (l : List UInt8) (i : Nat) (sg : Bool) (w : World) (h : ZS b l i 0 w) (c : UInt8) (hc : Asc.at_ l i = c.toNat) (hc1 : c.toNat ≠ 92) (h1 : c.toNat < 32 ∨ 126 < c.toNat) : Calls Tryz.prog 166 #[.pointer (some ⟨b, 0, none⟩), .bool sg] w (EscZ b l (.error (i, 1)) w) := by
 have hv := (zero_of_info infoS).1
 have hbb := h.st.lt
 have H := Lib.hid h
 have hc0 : nxN l i 0 ≠ 92 := by rw [nxN_ok, hc]; exact hc1
 have hc8 : c.toNat < 256 := UInt8.toNat_lt c
 have HC8 := Lib.hid hc8
 have HT := Lib.hid fun W (hW : ZS b l i 0 W) => ztakes_no b l i 0 W hW 92 hc0
 have HN := Lib.hid fun W (hW : ZS b l i 0 W) => znext_ok b l i W hW c.toNat hc hc8
 have HF := Lib.hid fun W (hW : ZS b l i 0 W) => zfail b l i 0 1 W hW
 rw [if_pos rfl] at HF
 have HPR := Lib.hid fun W => printable_no c.toNat W h1
 clear hc hc0 hc1 h1 hc8
 clear h
 go_enter Tryz.func166, Tryz.ntmps166
 go_wp2_with fail
 rw [← setA_false]
 have HQ0 := Lib.hid ((ZQ.refl H.out).on (al_below w (.cells (setA (fun _ => false)) 213)))
 have HB0 := Lib.hid (heap_alloc_new w (.cells (setA (fun _ => false)) 213))
 have hg0 : w.heap.size < (w.alloc (.cells (setA (fun _ => false)) 213)).heap.size := by simp
 refine (HT.out _ HQ0.out.ps).mono ?_
 rintro e w1 ⟨rfl, hq⟩
 have HQ1 := Lib.hid (HQ0.out.trans hq)
 have HB1 := Lib.hid ((hq.ap.block (k := w.heap.size) (by omega) (Array.getElem?_eq_some_iff.1 HB0.out).1).trans HB0.out)
 clear hq HQ0 HB0
 go_wp2_with fail
 refine (HN.out _ HQ1.out.ps).mono ?_
 rintro e w2 ⟨rfl, hq⟩
 have HQ2 := Lib.hid (HQ1.out.trans hq)
 have HB2 := Lib.hid ((hq.ap.block (k := w.heap.size) (by omega) (Array.getElem?_eq_some_iff.1 HB1.out).1).trans HB1.out)
 clear hq HQ1 HB1
 go_wp2_with fail
 refine (HPR.out _).mono ?_
 rintro e wp ⟨rfl, rfl⟩
 go_wp2_with fail
 refine (HF.out _ HQ2.out.ps).mono ?_
 rintro e w8 ⟨rfl, hq⟩
 have HQ8 := Lib.hid (HQ2.out.trans hq)
 have h8 := (hq.ap.block (k := w.heap.size) (by omega) (Array.getElem?_eq_some_iff.1 HB2.out).1).trans HB2.out
 have e8 := put_self h8
 clear hq HQ2 HB2
 go_wp2_with fail
 refine wp_load_set _ rfl w.heap.size rfl _ _ h8 ?_
 go_wp2_with fail
 exact itz_ret rfl h8 rfl rfl rfl HQ8.out (by decide) (fits_err (by decide))
set_option maxHeartbeats 8000000 in
set_option maxRecDepth 1000000 in
theorem itz_sign (b : Nat) (l : List UInt8) (i : Nat) (sg : Bool) (w : World) (h : ZS b l i 0 w) (c : UInt8) (hc : Asc.at_ l i = c.toNat) (hc1 : c.toNat ≠ 92) (h1 : 32 ≤ c.toNat) (h2 : c.toNat ≤ 126) (hn : c ∈ oddL) : Calls Tryz.prog 166 #[.pointer (some ⟨b, 0, none⟩), .bool sg] w (EscZ b l (.error (i, 1)) w) := by
 have hv := (zero_of_info infoS).1
 have hbb := h.st.lt
 have H := Lib.hid h
 have hc0 : nxN l i 0 ≠ 92 := by rw [nxN_ok, hc]; exact hc1
 have hc8 : c.toNat < 256 := UInt8.toNat_lt c
 have HC8 := Lib.hid hc8
 have HT := Lib.hid fun W (hW : ZS b l i 0 W) => ztakes_no b l i 0 W hW 92 hc0
 have HN := Lib.hid fun W (hW : ZS b l i 0 W) => znext_ok b l i W hW c.toNat hc hc8
 have HF := Lib.hid fun W (hW : ZS b l i 0 W) => zfail b l i 0 1 W hW
 rw [if_pos rfl] at HF
 have HPR := Lib.hid fun W => printable_yes c.toNat W h1 h2
 have HI := Lib.hid fun W => (show Calls Tryz.prog 154 #[.string ⟨#[93, 45, 94, 92]⟩, .int .u8 (c.toNat : Int)] W _ from ib_yes oddL c W hn)
 obtain ⟨K, hK⟩ : ∃ K, Asc.pos oddL c = K := ⟨_, rfl⟩
 rw [hK] at HI
 have z0 : decide ((0 : Int) ≤ (K : Int)) = true := decide_eq_true (by omega)
 clear hK
 clear hc hc0 hc1 h1 h2 hc8 hn
 clear h
 go_enter Tryz.func166, Tryz.ntmps166
 go_wp2_with fail
 rw [← setA_false]
 have HQ0 := Lib.hid ((ZQ.refl H.out).on (al_below w (.cells (setA (fun _ => false)) 213)))
 have HB0 := Lib.hid (heap_alloc_new w (.cells (setA (fun _ => false)) 213))
 have hg0 : w.heap.size < (w.alloc (.cells (setA (fun _ => false)) 213)).heap.size := by simp
 refine (HT.out _ HQ0.out.ps).mono ?_
 rintro e w1 ⟨rfl, hq⟩
 have HQ1 := Lib.hid (HQ0.out.trans hq)
 have HB1 := Lib.hid ((hq.ap.block (k := w.heap.size) (by omega) (Array.getElem?_eq_some_iff.1 HB0.out).1).trans HB0.out)
 clear hq HQ0 HB0
 go_wp2_with fail
 refine (HN.out _ HQ1.out.ps).mono ?_
 rintro e w2 ⟨rfl, hq⟩
 have HQ2 := Lib.hid (HQ1.out.trans hq)
 have HB2 := Lib.hid ((hq.ap.block (k := w.heap.size) (by omega) (Array.getElem?_eq_some_iff.1 HB1.out).1).trans HB1.out)
 clear hq HQ1 HB1
 go_wp2_with fail
 refine (HPR.out _).mono ?_
 rintro e wp ⟨rfl, rfl⟩
 go_wp2_with fail
 refine (HI.out _).mono ?_
 rintro e wp ⟨rfl, rfl⟩
 go_wp2_with fail
 refine (HF.out _ HQ2.out.ps).mono ?_
 rintro e w8 ⟨rfl, hq⟩
 have HQ8 := Lib.hid (HQ2.out.trans hq)
 have h8 := (hq.ap.block (k := w.heap.size) (by omega) (Array.getElem?_eq_some_iff.1 HB2.out).1).trans HB2.out
 have e8 := put_self h8
 clear hq HQ2 HB2
 go_wp2_with fail
 refine wp_load_set _ rfl w.heap.size rfl _ _ h8 ?_
 go_wp2_with fail
 exact itz_ret rfl h8 rfl rfl rfl HQ8.out (by decide) (fits_err (by decide))
set_option maxHeartbeats 8000000 in
set_option maxRecDepth 1000000 in
theorem itz_self (b : Nat) (l : List UInt8) (i : Nat) (sg : Bool) (w : World) (h : ZS b l i 0 w) (c : UInt8) (hc : Asc.at_ l i = c.toNat) (hc1 : c.toNat ≠ 92) (h1 : 32 ≤ c.toNat) (h2 : c.toNat ≤ 126) (hn : c ∉ oddL) : Calls Tryz.prog 166 #[.pointer (some ⟨b, 0, none⟩), .bool sg] w (EscZ b l (.ok ((spanF c.toNat (c.toNat + 1), c.toNat, true), i + 1)) w) := by
 have hv := (zero_of_info infoS).1
 have hbb := h.st.lt
 have H := Lib.hid h
 have hc0 : nxN l i 0 ≠ 92 := by rw [nxN_ok, hc]; exact hc1
 have hc8 : c.toNat < 256 := UInt8.toNat_lt c
 have HC8 := Lib.hid hc8
 have HT := Lib.hid fun W (hW : ZS b l i 0 W) => ztakes_no b l i 0 W hW 92 hc0
 have HN := Lib.hid fun W (hW : ZS b l i 0 W) => znext_ok b l i W hW c.toNat hc hc8
 have hl : i < l.length := Asc.at_lt (by omega)
 have hl2 := h.len
 have hw : IntKind.i64.wrap ((i : Int) + 1) = (i : Int) + 1 := IntWalk.i64_in _ (by omega)
 have HL := Lib.hid hl
 have HPR := Lib.hid fun W => printable_yes c.toNat W h1 h2
 have HI := Lib.hid fun W => (show Calls Tryz.prog 154 #[.string ⟨#[93, 45, 94, 92]⟩, .int .u8 (c.toNat : Int)] W _ from ib_no oddL c W hn)
 have HSN := Lib.hid fun W => span_any c c W
 obtain ⟨f, hf⟩ : ∃ f, spanF c.toNat (c.toNat + 1) = f := ⟨_, rfl⟩
 rw [hf] at HSN ⊢
 clear hc hc0 hc1 h1 h2 hc8 hn hl hf
 clear h
 go_enter Tryz.func166, Tryz.ntmps166
 go_wp2_with fail
 rw [← setA_false]
 have HQ0 := Lib.hid ((ZQ.refl H.out).on (al_below w (.cells (setA (fun _ => false)) 213)))
 have HB0 := Lib.hid (heap_alloc_new w (.cells (setA (fun _ => false)) 213))
 have hg0 : w.heap.size < (w.alloc (.cells (setA (fun _ => false)) 213)).heap.size := by simp
 refine (HT.out _ HQ0.out.ps).mono ?_
 rintro e w1 ⟨rfl, hq⟩
 have HQ1 := Lib.hid (HQ0.out.trans hq)
 have HB1 := Lib.hid ((hq.ap.block (k := w.heap.size) (by omega) (Array.getElem?_eq_some_iff.1 HB0.out).1).trans HB0.out)
 clear hq HQ0 HB0
 go_wp2_with fail
 refine (HN.out _ HQ1.out.ps).mono ?_
 rintro e w2 ⟨rfl, hq⟩
 have HQ2 := Lib.hid (HQ1.out.trans hq)
 have HB2 := Lib.hid ((hq.ap.block (k := w.heap.size) (by omega) (Array.getElem?_eq_some_iff.1 HB1.out).1).trans HB1.out)
 clear hq HQ1 HB1
 have c1 := HQ2.out.ps.c1
 have f1 := HQ2.out.ps.f1
 go_wp2_with fail
 refine (HPR.out _).mono ?_
 rintro e wp ⟨rfl, rfl⟩
 go_wp2_with fail
 refine (HI.out _).mono ?_
 rintro e wp ⟨rfl, rfl⟩
 go_wp2_with fail
 have HQ3 := Lib.hid (HQ2.out.trans (HQ2.out.ps.to (i + 1) HL.out))
 have HB3 := Lib.hid (show (w2.setCell ⟨b, 1, none⟩ (.int .i64 ((i : Int) + 1))).heap[w.heap.size]? = _ from (Below.heap_setCell _ _ _ w.heap.size (by simp only; omega)).trans HB2.out)
 refine (HSN.out _).mono ?_
 rintro e w4 ⟨rfl, hb4⟩
 have HQ4 := Lib.hid (HQ3.out.on hb4)
 have HB4 := Lib.hid ((hb4.block _ (Array.getElem?_eq_some_iff.1 HB3.out).1).trans HB3.out)
 clear hb4 HQ2 HB2 HQ3 HB3 c1 f1
 obtain ⟨w9, e9, h9, hb9, e9'⟩ := put_set2 HB4.out f
 have HQ9 := Lib.hid (HQ4.out.far (hb9.mono (Nat.le_refl _)) hbb)
 clear hb9
 go_wp2_with fail
 exact itz_ret rfl h9 rfl rfl rfl HQ9.out HC8.out fits_ok
theorem dws_iff (x : UInt8) : dws x.toNat = true ↔ x ∈ dwsL := by
 unfold dws dwsL
 simp only [Bool.or_eq_true, decide_eq_true_eq, List.mem_cons, List.not_mem_nil, or_false, ← UInt8.toNat_inj]
 simp [or_assoc]
theorem odd_iff (c : UInt8) : c ∈ oddL ↔ (c.toNat = 93 ∨ c.toNat = 45 ∨ c.toNat = 94 ∨ c.toNat = 92) := by
 unfold oddL
 simp only [List.mem_cons, List.not_mem_nil, or_false, ← UInt8.toNat_inj]
 simp
theorem item_any (b : Nat) (l : List UInt8) (sg : Bool) (i : Nat) (w : World) (h : ZS b l i 0 w) : Calls Tryz.prog 166 #[.pointer (some ⟨b, 0, none⟩), .bool sg] w (EscZ b l (itemM l sg i) w) := by
 unfold itemM
 by_cases h1 : Asc.at_ l i = 92
 ·rw [if_pos h1]
  rcases at_two l (i + 1) with h2 | h2
  ·obtain ⟨x, hx⟩ := at_u8 h2
   rw [hx]
   cases sg with
   | false => exact itz_bany b l i w h h1 x hx
   | true =>
    by_cases hd : x ∈ dwsL
    ·rw [if_pos (by simp [(dws_iff x).2 hd])]
     exact itz_bset b l i w h h1 x hx hd
    ·rw [if_neg (by simpa using fun e => hd ((dws_iff x).1 e))]
     exact itz_bone b l i w h h1 x hx hd
  ·rw [h2, if_neg (by cases sg <;> decide)]
   exact itz_bend b l i sg w h h1 h2
 rw [if_neg h1]
 rcases at_two l i with h2 | h2
 ·obtain ⟨c, hc⟩ := at_u8 h2
  rw [hc] at h1 ⊢
  by_cases ha : c.toNat < 32 ∨ 126 < c.toNat
  ·rw [if_neg (by simp only [selfI, Bool.and_eq_true, decide_eq_true_eq]; omega)]
   exact itz_odd b l i sg w h c hc h1 ha
  ·by_cases hd : c ∈ oddL
   ·have := (odd_iff c).1 hd
    rw [if_neg (by simp only [selfI, Bool.and_eq_true, decide_eq_true_eq]; omega)]
    exact itz_sign b l i sg w h c hc h1 (by omega) (by omega) hd
   ·have hd2 := fun e => hd ((odd_iff c).2 e)
    have hs : selfI c.toNat = true := by
     simp only [selfI, Bool.and_eq_true, decide_eq_true_eq]
     exact ⟨⟨⟨⟨by omega, by omega⟩, fun e => hd2 (.inl e)⟩, fun e => hd2 (.inr (.inl e))⟩, fun e => hd2 (.inr (.inr (.inl e)))⟩
    rw [if_pos hs]
    exact itz_self b l i sg w h c hc h1 (by omega) (by omega) hd
 ·rw [h2, if_neg (by decide)]
  exact itz_end b l i sg w h h2
end Go.Proofs.YtmpbjaodgajnfaaGreatDoor
namespace Go.Proofs.YtmpbjaodgajnfaaGreatDoor.Asc
def val (l : List UInt8) : Nat := l.foldl (fun n c => n * 10 + (c.toNat - 48)) 0
def allD (l : List UInt8) : Bool := l.all fun c => isDigit c.toNat
def digN (l : List UInt8) (most : Nat) : Nat := if 1 ≤ l.length ∧ l.length ≤ most ∧ allD l = true then val l else 0
def digB (l : List UInt8) (most : Nat) : Bool := decide (1 ≤ l.length ∧ l.length ≤ most ∧ allD l = true)
theorem val_snoc (l : List UInt8) (c : UInt8) : val (l ++ [c]) = val l * 10 + (c.toNat - 48) := by unfold val; simp
theorem allD_snoc (l : List UInt8) (c : UInt8) : allD (l ++ [c]) = (allD l && isDigit c.toNat) := by unfold allD; simp
theorem isDigit_iff (c : Nat) : isDigit c = true ↔ 48 ≤ c ∧ c ≤ 57 := by unfold isDigit; simp
theorem allD_take {l : List UInt8} (h : allD l = true) (k : Nat) : allD (l.take k) = true := by
 unfold allD at h ⊢
 rw [List.all_eq_true] at h ⊢
 exact fun x hx => h x (List.mem_of_mem_take hx)
theorem allD_bad {l : List UInt8} (k : Nat) (h : k < l.length) (hb : isDigit (l[k]).toNat = false) : allD l = false := by
 rw [Bool.eq_false_iff]
 intro e
 unfold allD at e
 rw [List.all_eq_true] at e
 have := e _ (List.getElem_mem h)
 rw [hb] at this
 cases this
theorem val_lt_aux (n : Nat) : ∀ l : List UInt8, l.length = n → allD l = true → val l < 10 ^ n := by
 induction n with
 | zero => intro l h _; obtain rfl := List.length_eq_zero_iff.1 h; simp [val]
 | succ n ih =>
  intro l h ha
  have hl : l = l.take n ++ [l[n]] := by rw [← snoc_take l n (by omega), ← h, List.take_length]
  have hn : (l.take n).length = n := by simp; omega
  have hd : isDigit (l[n]).toNat = true := by rw [hl, allD_snoc] at ha; simp at ha; exact ha.2
  rw [isDigit_iff] at hd
  have hi := ih (l.take n) hn (allD_take ha n)
  rw [hl, val_snoc, Nat.pow_succ]
  omega
theorem val_lt {l : List UInt8} (h : allD l = true) : val l < 10 ^ l.length := val_lt_aux _ l rfl h
theorem val_le18 {l : List UInt8} (h : allD l = true) (hl : l.length ≤ 18) : val l < 1000000000000000000 :=
 Nat.lt_of_lt_of_le (val_lt h) (Nat.pow_le_pow_right (n := 10) (by omega) hl)
theorem dig_yes {l : List UInt8} {most : Nat} (h1 : 1 ≤ l.length) (h2 : l.length ≤ most) (h3 : allD l = true) : digN l most = val l ∧ digB l most = true := by
 unfold digN digB; rw [if_pos ⟨h1, h2, h3⟩]; simp [h1, h2, h3]
theorem dig_no {l : List UInt8} {most : Nat} (h : l.length < 1 ∨ most < l.length ∨ allD l = false) : digN l most = 0 ∧ digB l most = false := by
 have hn : ¬ (1 ≤ l.length ∧ l.length ≤ most ∧ allD l = true) := by
  rintro ⟨a, b, c⟩
  rcases h with h | h | h
  ·omega
  ·omega
  ·rw [c] at h; cases h
 unfold digN digB; rw [if_neg hn]; exact ⟨rfl, decide_eq_false hn⟩
def numN (l : List UInt8) : Int := if l.head? = some 45 then -(digN l.tail 18 : Int) else (digN l 18 : Int)
def numB (l : List UInt8) : Bool := if l.head? = some 45 then digB l.tail 18 else digB l 18
theorem num_neg (d : List UInt8) : numN (45 :: d) = -(digN d 18 : Int) ∧ numB (45 :: d) = digB d 18 := by unfold numN numB; simp
theorem num_pos {l : List UInt8} (h : l.head? ≠ some 45) : numN l = (digN l 18 : Int) ∧ numB l = digB l 18 := by unfold numN numB; simp [h]
end Go.Proofs.YtmpbjaodgajnfaaGreatDoor.Asc
namespace Go.Proofs.YtmpbjaodgajnfaaGreatDoor
open Go.RowKit
theorem val_small {l : List UInt8} {k : Nat} (h : Asc.allD (l.take k) = true) (hk : k ≤ 17) : Asc.val (l.take k) < 100000000000000000 :=
 Nat.lt_of_lt_of_le (Asc.val_lt h) (Nat.le_trans (Nat.pow_le_pow_right (n := 10) (by omega) (show (l.take k).length ≤ 17 by rw [List.length_take]; omega)) (by decide))
theorem ret_nb {a b : Int} {c d : Bool} (h : a = b) (k : c = d) : Ending.returned (.tuple #[.int .i64 a, .bool c]) = .returned (.tuple #[.int .i64 b, .bool d]) := by rw [h, k]
def Asc.sgn (neg : Bool) (n : Nat) : Int := if neg then -(n : Int) else (n : Int)
set_option maxRecDepth 100000 in
set_option maxHeartbeats 1000000 in
theorem number_core (l d : List UInt8) (neg : Bool) (w : World) (hk : Kinds w) (hd : Lib.trimPrefix l [45] = d) (hn : decide (d.length < l.length) = neg) :
  Calls Tryz.prog 173 #[.string ⟨l.toArray⟩] w fun e w' => e = .returned (.tuple #[.int .i64 (Asc.sgn neg (Asc.digN d 18)), .bool (Asc.digB d 18)]) ∧ Below w.heap.size w w' := by
 have HT : Hid (∀ w, Calls Tryz.prog 44 #[.string ⟨l.toArray⟩, .string ⟨#[45]⟩] w fun e w' => e = .returned (.string ⟨d.toArray⟩) ∧ w = w') := by
  show ∀ w, _
  intro w
  rw [← hd]
  exact (Tryz.strings_TrimPrefix ⟨l.toArray⟩ ⟨#[45]⟩ w).mono fun e w' ⟨h1, h2⟩ => ⟨h1, h2.symm⟩
 clear hd
 by_cases h1 : 1 ≤ d.length
 ·have t1 : decide ((d.length : Int) < 1) = false := by simp; omega
  by_cases h2 : d.length ≤ 18
  ·have t2 : decide (18 < (d.length : Int)) = false := by simp; omega
   have HF := Lib.hid (Asc.dig_yes h1 h2)
   have HN := Lib.hid (Asc.dig_no (l := d) (most := 18))
   obtain ⟨cap, w2, nb⟩ := conv_bytes w d
   have hr := nb.run
   have NB := Lib.hid nb
   have HK := Lib.hid (hk.below nb.below)
   clear nb hk
   go_enter Tryz.func173, Tryz.ntmps173
   go_wp2_with (go_at_call 44; refine (HT.out _).mono ?_; rintro e w' ⟨rfl, rfl⟩)
   go_loop [5, 21] (fun t i => ∃ k : Nat, k ≤ d.length ∧ i = .int .i64 k ∧ t = .int .i64 (Asc.val (d.take k) : Nat) ∧ Asc.allD (d.take k) = true) (fun _ i => d.length - (intOf i).toNat)
   case atStart => exact ⟨0, by omega, rfl, rfl, rfl⟩
   case round =>
    obtain ⟨k, hk, rfl, rfl, ha⟩ := hrel
    by_cases hlt : k < d.length
    ·have hcell := NB.out.cells.at k hlt
     rw [Asc.at_of hlt] at hcell
     have hc2 : d[k].toNat < 256 := d[k].toNat_lt
     generalize hc : d[k].toNat = c at *
     have hv := val_small ha (by omega)
     have HA := Lib.hid ha
     have HC := Lib.hid hc
     clear ha hc
     cases hd : Asc.isDigit c
     ·have HB := Lib.hid (Asc.allD_bad k hlt (by rw [HC.out]; exact hd))
      go_wp2_with (go_at_call 170; refine (digit_any c w2 hc2 HK.out).mono ?_; rintro e w' ⟨rfl, rfl⟩)
      go_ret2
      have := HN.out (.inr (.inr HB.out))
      exact ⟨ret_nb (by rw [this.1]; cases neg <;> rfl) this.2.symm, NB.out.below⟩
     ·have hd2 := (Asc.isDigit_iff c).1 hd
      have HV : Hid (Asc.val (d.take (k + 1)) = Asc.val (d.take k) * 10 + (c - 48)) := by
       show Asc.val _ = _
       rw [Asc.snoc_take d k hlt, Asc.val_snoc, HC.out]
      have HB : Hid (Asc.allD (d.take (k + 1)) = true) := by
       show Asc.allD _ = _
       rw [Asc.snoc_take d k hlt, Asc.allD_snoc, HC.out, HA.out, hd]; rfl
      generalize Asc.val (d.take k) = v at *
      go_wp2_with (go_at_call 170; refine (digit_any c w2 hc2 HK.out).mono ?_; rintro e w' ⟨rfl, rfl⟩)
      go_round
      case rel => exact ⟨k + 1, by omega, by go_num, by rw [HV.out]; congr 1; omega, HB.out⟩
      case measure => simp [intOf]; omega
    ·have HA := Lib.hid (show Asc.allD d = true by rw [List.take_of_length_le (by omega)] at ha; exact ha)
     have HV := Lib.hid (show Asc.val (d.take k) = Asc.val d by rw [List.take_of_length_le (by omega)])
     have hv := Asc.val_le18 HA.out h2
     rw [← HV.out] at hv
     clear ha
     generalize Asc.val (d.take k) = v at *
     cases neg
     all_goals
      go_wp2_with fail
      go_ret2
      have := HF.out HA.out
      exact ⟨ret_nb (by rw [this.1, ← HV.out]; rfl) this.2.symm, NB.out.below⟩
  ·have t2 : decide (18 < (d.length : Int)) = true := by simp; omega
   have HN := Lib.hid (Asc.dig_no (l := d) (most := 18) (.inr (.inl (by omega))))
   go_enter Tryz.func173, Tryz.ntmps173
   go_wp2_with (go_at_call 44; refine (HT.out _).mono ?_; rintro e w' ⟨rfl, rfl⟩)
   go_ret2
   exact ⟨ret_nb (by rw [HN.out.1]; cases neg <;> rfl) HN.out.2.symm, Below.refl _ _⟩
 ·have t1 : decide ((d.length : Int) < 1) = true := by simp; omega
  have HN := Lib.hid (Asc.dig_no (l := d) (most := 18) (.inl (by omega)))
  go_enter Tryz.func173, Tryz.ntmps173
  go_wp2_with (go_at_call 44; refine (HT.out _).mono ?_; rintro e w' ⟨rfl, rfl⟩)
  go_ret2
  exact ⟨ret_nb (by rw [HN.out.1]; cases neg <;> rfl) HN.out.2.symm, Below.refl _ _⟩
theorem number_any (l : List UInt8) (w : World) (hk : Kinds w) :
  Calls Tryz.prog 173 #[.string ⟨l.toArray⟩] w fun e w' => e = .returned (.tuple #[.int .i64 (Asc.numN l), .bool (Asc.numB l)]) ∧ Below w.heap.size w w' := by
 by_cases hh : l.head? = some 45
 ·obtain ⟨d, rfl⟩ : ∃ d, l = 45 :: d := by
   cases l with
   | nil => cases hh
   | cons c d => simp at hh; subst hh; exact ⟨d, rfl⟩
  have h := number_core (45 :: d) d true w hk (by simp [Lib.trimPrefix, Lib.hasPrefix]) (by simp)
  rw [(Asc.num_neg d).1, (Asc.num_neg d).2]
  exact h
 ·have h := number_core l l false w hk (by
   cases l with
   | nil => rfl
   | cons c d =>
    have : ¬ c = 45 := fun e => hh (by simp [e])
    simp [Lib.trimPrefix, Lib.hasPrefix]
    intro e; exact absurd e.symm (by simpa using this)) (by simp)
  rw [(Asc.num_pos hh).1, (Asc.num_pos hh).2]
  exact h
end Go.Proofs.YtmpbjaodgajnfaaGreatDoor
namespace Go.Proofs.YtmpbjaodgajnfaaGreatDoor
open Go.RowKit Go.Sort
def BndZ (b : Nat) (l : List UInt8) (r : Out Nat) (w : World) (en : Ending) (w' : World) : Prop := ∃ v j e : Nat, en = .returned (.int .i64 (v : Int)) ∧ ZQ b l j e w w' ∧ v ≤ 99 ∧ fits r v j e
theorem num_one (a : UInt8) (h : Asc.isDigit a.toNat = true) : Asc.numN [a] = ((a.toNat - 48 : Nat) : Int) := by
 have h2 := (Asc.isDigit_iff a.toNat).1 h
 have hd : [a].head? ≠ some 45 := by
  simp only [List.head?_cons, ne_eq, Option.some.injEq]
  intro e
  subst e
  revert h2
  decide
 have hd1 := Asc.dig_yes (l := [a]) (most := 18) (by simp) (by simp) (by simp [Asc.allD, h])
 rw [(Asc.num_pos hd).1, hd1.1]
 simp [Asc.val]
theorem num_two (a c : UInt8) (h : Asc.isDigit a.toNat = true) (k : Asc.isDigit c.toNat = true) : Asc.numN [a, c] = (((a.toNat - 48) * 10 + (c.toNat - 48) : Nat) : Int) := by
 have h2 := (Asc.isDigit_iff a.toNat).1 h
 have hd : [a, c].head? ≠ some 45 := by
  simp only [List.head?_cons, ne_eq, Option.some.injEq]
  intro e
  subst e
  revert h2
  decide
 have hd1 := Asc.dig_yes (l := [a, c]) (most := 18) (by simp) (by simp) (by simp [Asc.allD, h, k])
 rw [(Asc.num_pos hd).1, hd1.1]
 simp [Asc.val]
theorem dig_at {l : List UInt8} {i : Nat} (h : Asc.isDigit (Asc.at_ l i) = true) : i < l.length ∧ Asc.at_ l i ≤ 57 ∧ 48 ≤ Asc.at_ l i := by
 have := (Asc.isDigit_iff _).1 h
 exact ⟨Asc.at_lt (by omega), this.2, this.1⟩
def bEnd (l : List UInt8) (i : Nat) : Nat := if Asc.isDigit (Asc.at_ l i) then (if Asc.isDigit (Asc.at_ l (i + 1)) then i + 2 else i + 1) else i
def bVal (l : List UInt8) (i : Nat) : Nat := if Asc.isDigit (Asc.at_ l (i + 1)) then (Asc.at_ l i - 48) * 10 + (Asc.at_ l (i + 1) - 48) else Asc.at_ l i - 48
theorem boundM_eq (l : List UInt8) (i : Nat) : boundM l i = if Asc.isDigit (Asc.at_ l i) = true then (if 40 < bVal l i then .error (bEnd l i, 2) else .ok (bVal l i, bEnd l i)) else .error (i, 1) := by
 unfold boundM bVal bEnd
 by_cases h : Asc.isDigit (Asc.at_ l i) = true
 ·simp only [if_pos h]
  by_cases k : Asc.isDigit (Asc.at_ l (i + 1)) = true
  ·simp only [if_pos k]
  ·simp only [if_neg k]
   have := (Asc.isDigit_iff _).1 h
   rw [if_neg (by omega)]
 ·rw [if_neg h, if_neg h]
theorem seg_one {l : List UInt8} {i : Nat} (h : i < l.length) : Asc.seg l i (i + 1) = [l[i]] := by
 rw [Asc.seg_snoc l (Nat.le_refl _) h, Asc.seg_same]
 rfl
theorem seg_two {l : List UInt8} {i : Nat} (h : i + 1 < l.length) : Asc.seg l i (i + 2) = [l[i], l[i + 1]] := by
 rw [Asc.seg_snoc l (Nat.le_succ _) h, seg_one (by omega)]
 rfl
theorem num_seg (l : List UInt8) (i : Nat) (h : Asc.isDigit (Asc.at_ l i) = true) : Asc.numN (Asc.seg l i (bEnd l i)) = (bVal l i : Int) ∧ bVal l i ≤ 99 ∧ i < bEnd l i ∧ bEnd l i ≤ i + 2 ∧ bEnd l i ≤ l.length := by
 have h1 := dig_at h
 unfold bEnd bVal
 rw [if_pos h]
 by_cases k : Asc.isDigit (Asc.at_ l (i + 1)) = true
 ·have h2 := dig_at k
  rw [if_pos k, if_pos k, seg_two h2.1]
  have e1 := Asc.at_of h1.1
  have e2 := Asc.at_of h2.1
  rw [e1] at h
  rw [e2] at k
  rw [num_two _ _ h k, ← e1, ← e2]
  exact ⟨rfl, by omega, by omega, by omega, by omega⟩
 ·rw [if_neg k, if_neg k, seg_one h1.1]
  have e1 := Asc.at_of h1.1
  rw [e1] at h
  rw [num_one _ h, ← e1]
  exact ⟨rfl, by omega, by omega, by omega, by omega⟩
def posAt (b : Nat) (w : World) : Nat := match w.cell? ⟨b, 1, none⟩ with
 | some (.int .i64 p) => p.toNat
 | _ => 0
theorem ZS.pos {b : Nat} {l : List UInt8} {i e : Nat} {w : World} (h : ZS b l i e w) : posAt b w = i := by
 unfold posAt
 rw [h.c1]
 simp
theorem ZQ.grown {b : Nat} {l : List UInt8} {i e : Nat} {w w1 : World} (h : ZQ b l i e w w1) (d : Nat) (os : Array Obj) : ZQ b l i e w (grow (redrawn w1 d) os) := h.on (below_regrown w1 d os)
set_option maxHeartbeats 16000000 in
set_option maxRecDepth 1000000 in
theorem bound_any (b : Nat) (l : List UInt8) (i : Nat) (w : World) (h : ZS b l i 0 w) : Calls Tryz.prog 155 #[.pointer (some ⟨b, 0, none⟩)] w (BndZ b l (boundM l i) w) := by
 have hl2 := h.len
 have hle := h.le
 have c1 := h.c1
 have H := Lib.hid h
 have HNX := Lib.hid fun (k v : Nat) (hv : Asc.at_ l k = v) (hv2 : v < 256) W (hW : ZS b l k 0 W) => znext_ok b l k W hW v hv hv2
 have HNE := Lib.hid fun (k : Nat) (hv : Asc.at_ l k = 999) W (hW : ZS b l k 0 W) => znext_no b l k 0 W hW hv
 have HD := Lib.hid fun (k : Nat) (v : Nat) (hv : v < 256) W (hW : ZS b l k 0 W) => digit_any v W hv hW.kd
 have HNM := Lib.hid fun (k : Nat) W (hW : ZS b l k 0 W) => number_any (Asc.seg l i (bEnd l i)) W hW.kd
 have HF := Lib.hid fun (k x : Nat) W (hW : ZS b l k 0 W) => zfail b l k 0 x W hW
 simp only [if_true] at HF
 have HB := Lib.hid (boundM_eq l i)
 have HNS := Lib.hid (num_seg l i)
 have w2 : IntKind.i64.wrap ((i : Int) + 2) = (i : Int) + 2 := IntWalk.i64_in _ (by omega)
 clear h
 go_enter Tryz.func155, Tryz.ntmps155
 go_wp2_with fail
 go_loopw [4, 5] (fun _ _ wr => ∃ (k : Nat), (k = 0 ∨ k = 1 ∧ Asc.isDigit (Asc.at_ l i) = true ∨ k = 2 ∧ Asc.isDigit (Asc.at_ l i) = true ∧ Asc.isDigit (Asc.at_ l (i + 1)) = true) ∧ Hid (ZQ b l (i + k) 0 w wr)) (fun _ _ wr => (i + 3) - posAt b wr)
 case atStart => exact ⟨0, .inl rfl, Lib.hid (ZQ.refl H.out)⟩
 case round =>
  obtain ⟨k, hk, HQ⟩ := hrel
  clear c1
  rcases hk with rfl | ⟨rfl, hd1⟩ | ⟨rfl, hd1, hd2⟩
  ·have HQ : Hid (ZQ b l i 0 w wr) := HQ
   have c1 := HQ.out.ps.c1
   have z1 : decide (((i : Int) : Int) < (i : Int) + 2) = true := decide_eq_true (by omega)
   go_wp2_with fail
   clear c1 z1
   rcases at_two l (i) with h8 | h8
   ·obtain ⟨v, hv⟩ : ∃ v, Asc.at_ l (i) = v := ⟨_, rfl⟩
    have hv8 : v < 256 := by omega
    refine (HNX.out _ v hv hv8 _ HQ.out.ps).mono ?_
    rintro e w1 ⟨rfl, hq⟩
    have HQ1 := Lib.hid (HQ.out.trans hq)
    clear hq
    have HDV := Lib.hid (HD.out _ v hv8 _ HQ1.out.ps)
    have HV := Lib.hid hv
    clear hv h8
    cases hd : Asc.isDigit v with
    | true =>
     rw [hd] at HDV
     have HDY := Lib.hid hd
     clear hd
     have c1 := HQ1.out.ps.c1
     have f1 := HQ1.out.ps.f1
     have HPL := Lib.hid (show i < l.length from (dig_at (by rw [HV.out]; exact HDY.out)).1)
     have hpl := HPL.out
     have wz : IntKind.i64.wrap ((((i) : Nat) : Int) + 1) = (((i) + 1 : Nat) : Int) := by rw [show ((((i) : Nat) : Int) + 1) = (((i) + 1 : Nat) : Int) by omega]; exact IntWalk.i64_in _ (by omega)
     go_wp2_with fail
     refine HDV.out.mono ?_
     rintro e wd ⟨rfl, rfl⟩
     go_wp2_with fail
     have HQ2 := Lib.hid (HQ1.out.trans (HQ1.out.ps.to ((i) + 1) HPL.out))
     exact ⟨⟨1, .inr (.inl ⟨rfl, by rw [HV.out]; exact HDY.out⟩), HQ2⟩, by rw [HQ.out.ps.pos]; exact Nat.lt_of_le_of_lt (Nat.le_of_eq (congrArg (fun x => i + 3 - x) HQ2.out.ps.pos)) (by omega)⟩
    | false =>
     rw [hd] at HDV
     have HZ := Lib.hid (show Asc.isDigit (Asc.at_ l (i)) = false by rw [HV.out]; exact hd)
     clear hd
     go_wp2_with fail
     refine HDV.out.mono ?_
     rintro e wd ⟨rfl, rfl⟩
     have c1 := HQ1.out.ps.c1
     go_wp2_with fail
     refine (HF.out _ 1 _ HQ1.out.ps).mono ?_
     rintro e w2 ⟨rfl, hq⟩
     have HQ2 := Lib.hid (HQ1.out.trans hq)
     clear hq
     go_wp2_with fail
     go_ret
     exact ⟨0, i, 1, rfl, HQ2.out, by omega, by rw [HB.out, if_neg (by rw [HZ.out]; decide)]; exact fits_err (by decide)⟩
   ·refine (HNE.out _ h8 _ HQ.out.ps).mono ?_
    rintro e w1 ⟨rfl, hq⟩
    have HQ1 := Lib.hid (HQ.out.trans hq)
    have HZ := Lib.hid (show Asc.isDigit (Asc.at_ l (i)) = false by rw [h8]; decide)
    clear hq h8
    have c1 := HQ1.out.ps.c1
    go_wp2_with fail
    refine (HF.out _ 1 _ HQ1.out.ps).mono ?_
    rintro e w2 ⟨rfl, hq⟩
    have HQ2 := Lib.hid (HQ1.out.trans hq)
    clear hq
    go_wp2_with fail
    go_ret
    exact ⟨0, i, 1, rfl, HQ2.out, by omega, by rw [HB.out, if_neg (by rw [HZ.out]; decide)]; exact fits_err (by decide)⟩
  ·have HDG := Lib.hid hd1
   clear hd1
   have c1 := HQ.out.ps.c1
   have z1 : decide ((((i + 1 : Nat) : Int) : Int) < (i : Int) + 2) = true := decide_eq_true (by omega)
   go_wp2_with fail
   clear c1 z1
   rcases at_two l (i + 1) with h8 | h8
   ·obtain ⟨v, hv⟩ : ∃ v, Asc.at_ l (i + 1) = v := ⟨_, rfl⟩
    have hv8 : v < 256 := by omega
    refine (HNX.out _ v hv hv8 _ HQ.out.ps).mono ?_
    rintro e w1 ⟨rfl, hq⟩
    have HQ1 := Lib.hid (HQ.out.trans hq)
    clear hq
    have HDV := Lib.hid (HD.out _ v hv8 _ HQ1.out.ps)
    have HV := Lib.hid hv
    clear hv h8
    cases hd : Asc.isDigit v with
    | true =>
     rw [hd] at HDV
     have HDY := Lib.hid hd
     clear hd
     have c1 := HQ1.out.ps.c1
     have f1 := HQ1.out.ps.f1
     have HPL := Lib.hid (show i + 1 < l.length from (dig_at (by rw [HV.out]; exact HDY.out)).1)
     have hpl := HPL.out
     have wz : IntKind.i64.wrap ((((i + 1) : Nat) : Int) + 1) = (((i + 1) + 1 : Nat) : Int) := by rw [show ((((i + 1) : Nat) : Int) + 1) = (((i + 1) + 1 : Nat) : Int) by omega]; exact IntWalk.i64_in _ (by omega)
     go_wp2_with fail
     refine HDV.out.mono ?_
     rintro e wd ⟨rfl, rfl⟩
     go_wp2_with fail
     have HQ2 := Lib.hid (HQ1.out.trans (HQ1.out.ps.to ((i + 1) + 1) HPL.out))
     exact ⟨⟨2, .inr (.inr ⟨rfl, HDG.out, by rw [HV.out]; exact HDY.out⟩), HQ2⟩, by rw [HQ.out.ps.pos]; exact Nat.lt_of_le_of_lt (Nat.le_of_eq (congrArg (fun x => i + 3 - x) HQ2.out.ps.pos)) (by omega)⟩
    | false =>
     rw [hd] at HDV
     have HZ := Lib.hid (show Asc.isDigit (Asc.at_ l (i + 1)) = false by rw [HV.out]; exact hd)
     clear hd
     go_wp2_with fail
     refine HDV.out.mono ?_
     rintro e wd ⟨rfl, rfl⟩
     have HD2 := HZ
     obtain ⟨hn1, hn2, hn3, hn4, hn5⟩ := HNS.out HDG.out
     have HBD := HB
     clear HB HNS
     obtain ⟨V, hV⟩ : ∃ V, bVal l i = V := ⟨_, rfl⟩
     obtain ⟨E, hE⟩ : ∃ E, bEnd l i = E := ⟨_, rfl⟩
     rw [hV] at hn1 hn2 HBD
     rw [hE] at hn1 hn3 hn4 hn5 HBD HNM
     rw [hn1] at HNM
     have HQE : Hid (ZQ b l E 0 w w1) := by
      have := HQ1.out
      rwa [show i + 1 = E by rw [← hE]; unfold bEnd; simp only [HDG.out, HD2.out]; rfl] at this
     clear hV hE HQ1 HQ hn1
     have c0 := HQE.out.ps.c0
     have c1 := HQE.out.ps.c1
     have z0 : ((E : Int) == (i : Int)) = false := by rw [beq_eq_false_iff_ne]; omega
     have i0 : (0 : Int) ≤ (i : Int) := by omega
     have i1 : (i : Int) ≤ (E : Int) := by omega
     have i2 : (E : Int) ≤ (l.length : Int) := by omega
     go_wp2_with fail
     have k0 := cell_regrown c0
     have k1 := cell_regrown c1
     clear c0 c1
     refine wp_region_quiet_below (by kernel_rfl) (by kernel_rfl) ?_
     repeat (first | go_big_quiet_step ((go_at_call 173; simp only [Asc.extract_seg]; exact Calls.regrown_of (HNM.out _ _ (HQE.out.grown _ _).ps))) | quiet_step ((go_at_call 173; simp only [Asc.extract_seg]; exact Calls.regrown_of (HNM.out _ _ (HQE.out.grown _ _).ps))))
     refine wpQuiet_nil ?_
     clear k0 k1
     rintro _ ⟨⟨dq, osq⟩, rfl⟩
     obtain ⟨w3, hw3⟩ : ∃ W, grow (redrawn w1 dq) osq = W := ⟨_, rfl⟩
     have HQ3 : Hid (ZQ b l E 0 w w3) := Lib.hid (hw3 ▸ HQE.out.grown dq osq)
     dsimp only
     rw [hw3]
     clear hw3
     by_cases hv : 40 < V
     ·have z1 : decide ((40 : Int) < (V : Int)) = true := decide_eq_true (by omega)
      have y1 : decide (40 < V) = true := decide_eq_true hv
      go_wp2_with fail
      refine (HF.out _ 2 _ HQ3.out.ps).mono ?_
      rintro e w4 ⟨rfl, hq⟩
      have HQ4 := Lib.hid (HQ3.out.trans hq)
      clear hq
      go_wp2_with fail
      go_ret
      exact ⟨V, E, 2, rfl, HQ4.out, hn2, by rw [HBD.out, if_pos HDG.out, if_pos hv]; exact fits_err (by decide)⟩
     ·have z1 : decide ((40 : Int) < (V : Int)) = false := decide_eq_false (by omega)
      have y1 : decide (40 < V) = false := decide_eq_false hv
      go_wp2_with fail
      go_ret
      exact ⟨V, E, 0, rfl, HQ3.out, hn2, by rw [HBD.out, if_pos HDG.out, if_neg hv]; exact fits_ok⟩
   ·refine (HNE.out _ h8 _ HQ.out.ps).mono ?_
    rintro e w1 ⟨rfl, hq⟩
    have HQ1 := Lib.hid (HQ.out.trans hq)
    have HZ := Lib.hid (show Asc.isDigit (Asc.at_ l (i + 1)) = false by rw [h8]; decide)
    clear hq h8
    have HD2 := HZ
    obtain ⟨hn1, hn2, hn3, hn4, hn5⟩ := HNS.out HDG.out
    have HBD := HB
    clear HB HNS
    obtain ⟨V, hV⟩ : ∃ V, bVal l i = V := ⟨_, rfl⟩
    obtain ⟨E, hE⟩ : ∃ E, bEnd l i = E := ⟨_, rfl⟩
    rw [hV] at hn1 hn2 HBD
    rw [hE] at hn1 hn3 hn4 hn5 HBD HNM
    rw [hn1] at HNM
    have HQE : Hid (ZQ b l E 0 w w1) := by
     have := HQ1.out
     rwa [show i + 1 = E by rw [← hE]; unfold bEnd; simp only [HDG.out, HD2.out]; rfl] at this
    clear hV hE HQ1 HQ hn1
    have c0 := HQE.out.ps.c0
    have c1 := HQE.out.ps.c1
    have z0 : ((E : Int) == (i : Int)) = false := by rw [beq_eq_false_iff_ne]; omega
    have i0 : (0 : Int) ≤ (i : Int) := by omega
    have i1 : (i : Int) ≤ (E : Int) := by omega
    have i2 : (E : Int) ≤ (l.length : Int) := by omega
    go_wp2_with fail
    have k0 := cell_regrown c0
    have k1 := cell_regrown c1
    clear c0 c1
    refine wp_region_quiet_below (by kernel_rfl) (by kernel_rfl) ?_
    repeat (first | go_big_quiet_step ((go_at_call 173; simp only [Asc.extract_seg]; exact Calls.regrown_of (HNM.out _ _ (HQE.out.grown _ _).ps))) | quiet_step ((go_at_call 173; simp only [Asc.extract_seg]; exact Calls.regrown_of (HNM.out _ _ (HQE.out.grown _ _).ps))))
    refine wpQuiet_nil ?_
    clear k0 k1
    rintro _ ⟨⟨dq, osq⟩, rfl⟩
    obtain ⟨w3, hw3⟩ : ∃ W, grow (redrawn w1 dq) osq = W := ⟨_, rfl⟩
    have HQ3 : Hid (ZQ b l E 0 w w3) := Lib.hid (hw3 ▸ HQE.out.grown dq osq)
    dsimp only
    rw [hw3]
    clear hw3
    by_cases hv : 40 < V
    ·have z1 : decide ((40 : Int) < (V : Int)) = true := decide_eq_true (by omega)
     have y1 : decide (40 < V) = true := decide_eq_true hv
     go_wp2_with fail
     refine (HF.out _ 2 _ HQ3.out.ps).mono ?_
     rintro e w4 ⟨rfl, hq⟩
     have HQ4 := Lib.hid (HQ3.out.trans hq)
     clear hq
     go_wp2_with fail
     go_ret
     exact ⟨V, E, 2, rfl, HQ4.out, hn2, by rw [HBD.out, if_pos HDG.out, if_pos hv]; exact fits_err (by decide)⟩
    ·have z1 : decide ((40 : Int) < (V : Int)) = false := decide_eq_false (by omega)
     have y1 : decide (40 < V) = false := decide_eq_false hv
     go_wp2_with fail
     go_ret
     exact ⟨V, E, 0, rfl, HQ3.out, hn2, by rw [HBD.out, if_pos HDG.out, if_neg hv]; exact fits_ok⟩
  ·have HDG := Lib.hid hd1
   have HD2 := Lib.hid hd2
   clear hd1 hd2
   have z1 : decide (((i + 2 : Nat) : Int) < (i : Int) + 2) = false := decide_eq_false (by omega)
   have c1 := HQ.out.ps.c1
   go_wp2_with fail
   clear c1 z1
   have HQ1 := HQ
   obtain ⟨w1, hw1⟩ : ∃ w1, wr = w1 := ⟨_, rfl⟩
   subst hw1
   obtain ⟨hn1, hn2, hn3, hn4, hn5⟩ := HNS.out HDG.out
   have HBD := HB
   clear HB HNS
   obtain ⟨V, hV⟩ : ∃ V, bVal l i = V := ⟨_, rfl⟩
   obtain ⟨E, hE⟩ : ∃ E, bEnd l i = E := ⟨_, rfl⟩
   rw [hV] at hn1 hn2 HBD
   rw [hE] at hn1 hn3 hn4 hn5 HBD HNM
   rw [hn1] at HNM
   have HQE : Hid (ZQ b l E 0 w wr) := by
    have := HQ1.out
    rwa [show i + 2 = E by rw [← hE]; unfold bEnd; simp only [HDG.out, HD2.out]; rfl] at this
   clear hV hE HQ1 HQ hn1
   have c0 := HQE.out.ps.c0
   have c1 := HQE.out.ps.c1
   have z0 : ((E : Int) == (i : Int)) = false := by rw [beq_eq_false_iff_ne]; omega
   have i0 : (0 : Int) ≤ (i : Int) := by omega
   have i1 : (i : Int) ≤ (E : Int) := by omega
   have i2 : (E : Int) ≤ (l.length : Int) := by omega
   go_wp2_with fail
   have k0 := cell_regrown c0
   have k1 := cell_regrown c1
   clear c0 c1
   refine wp_region_quiet_below (by kernel_rfl) (by kernel_rfl) ?_
   repeat (first | go_big_quiet_step ((go_at_call 173; simp only [Asc.extract_seg]; exact Calls.regrown_of (HNM.out _ _ (HQE.out.grown _ _).ps))) | quiet_step ((go_at_call 173; simp only [Asc.extract_seg]; exact Calls.regrown_of (HNM.out _ _ (HQE.out.grown _ _).ps))))
   refine wpQuiet_nil ?_
   clear k0 k1
   rintro _ ⟨⟨dq, osq⟩, rfl⟩
   obtain ⟨w3, hw3⟩ : ∃ W, grow (redrawn wr dq) osq = W := ⟨_, rfl⟩
   have HQ3 : Hid (ZQ b l E 0 w w3) := Lib.hid (hw3 ▸ HQE.out.grown dq osq)
   dsimp only
   rw [hw3]
   clear hw3
   by_cases hv : 40 < V
   ·have z1 : decide ((40 : Int) < (V : Int)) = true := decide_eq_true (by omega)
    have y1 : decide (40 < V) = true := decide_eq_true hv
    go_wp2_with fail
    refine (HF.out _ 2 _ HQ3.out.ps).mono ?_
    rintro e w4 ⟨rfl, hq⟩
    have HQ4 := Lib.hid (HQ3.out.trans hq)
    clear hq
    go_wp2_with fail
    go_ret
    exact ⟨V, E, 2, rfl, HQ4.out, hn2, by rw [HBD.out, if_pos HDG.out, if_pos hv]; exact fits_err (by decide)⟩
   ·have z1 : decide ((40 : Int) < (V : Int)) = false := decide_eq_false (by omega)
    have y1 : decide (40 < V) = false := decide_eq_false hv
    go_wp2_with fail
    go_ret
    exact ⟨V, E, 0, rfl, HQ3.out, hn2, by rw [HBD.out, if_pos HDG.out, if_neg hv]; exact fits_ok⟩
def BdsZ (b : Nat) (l : List UInt8) (r : Out (Int × Int)) (w : World) (en : Ending) (w' : World) : Prop := ∃ (lo hi : Int) (j e : Nat), en = .returned (.tuple #[.int .i64 lo, .int .i64 hi]) ∧ ZQ b l j e w w' ∧ fits r (lo, hi) j e
set_option maxHeartbeats 16000000 in
set_option maxRecDepth 1000000 in
theorem bounds_any (b : Nat) (l : List UInt8) (i : Nat) (w : World) (h : ZS b l i 0 w) : Calls Tryz.prog 130 #[.pointer (some ⟨b, 0, none⟩)] w (BdsZ b l (boundsM l i) w) := by
 have HBD := Lib.hid fun (k : Nat) W (hW : ZS b l k 0 W) => bound_any b l k W hW
 have HTY := Lib.hid fun (k : Nat) (hk : Asc.at_ l k = 44) W (hW : ZS b l k 0 W) => ztakes_yes b l k W hW 44 hk (by decide)
 have HTN := Lib.hid fun (k e : Nat) (hk : nxN l k e ≠ 44) W (hW : ZS b l k e W) => ztakes_no b l k e W hW 44 hk
 have HSY := Lib.hid fun (k : Nat) (hk : Asc.at_ l k = 125) W (hW : ZS b l k 0 W) => zsees_yes b l k W hW 125 hk (by decide)
 have HSN := Lib.hid fun (k e : Nat) (hk : nxN l k e ≠ 125) W (hW : ZS b l k e W) => zsees_no b l k e W hW 125 hk
 have HXY := Lib.hid fun (k : Nat) (hk : Asc.at_ l k = 125) W (hW : ZS b l k 0 W) => zexpect_yes b l k W hW 125 hk (by decide)
 have HXN := Lib.hid fun (k e : Nat) (hk : nxN l k e ≠ 125) W (hW : ZS b l k e W) => zexpect_no b l k e W hW 125 hk
 have HF := Lib.hid fun (k e : Nat) W (hW : ZS b l k e W) => zfail b l k e 2 W hW
 have HM := Lib.hid (show boundsM l i = _ by rw [boundsM])
 have H := Lib.hid h
 clear h
 go_enter Tryz.func130, Tryz.ntmps130
 go_wp2_with fail
 refine (HBD.out _ _ H.out).mono ?_
 rintro e w1 ⟨lo, j, e1, rfl, hq, hlo, hr1⟩
 have HQ1 := Lib.hid hq
 have HR1 := Lib.hid (fits_cases hr1)
 clear hq hr1
 have zlo : decide ((0 : Int) ≤ (lo : Int)) = true := decide_eq_true (by omega)
 have ylo : decide (0 ≤ lo) = true := decide_eq_true (Nat.zero_le _)
 have zll : decide ((lo : Int) < (lo : Int)) = false := decide_eq_false (by omega)
 have yll : decide (lo < lo) = false := decide_eq_false (by omega)
 go_wp2_with fail
 rcases HR1.out with ⟨hm, rfl⟩ | ⟨hm, he⟩
 ·have HM1 := Lib.hid hm
  clear hm HR1
  by_cases h44 : Asc.at_ l j = 44
  ·have H44 := Lib.hid h44
   refine (HTY.out _ H44.out _ HQ1.out.ps).mono ?_
   rintro e w2 ⟨rfl, hq⟩
   have HQ2 := Lib.hid (HQ1.out.trans hq)
   clear hq
   go_wp2_with fail
   by_cases h125 : Asc.at_ l (j + 1) = 125
   ·have H125 := Lib.hid h125
    clear h125 h44
    refine (HSY.out _ H125.out _ HQ2.out.ps).mono ?_
    rintro e w3 ⟨rfl, hq⟩
    have HQ3 := Lib.hid (HQ2.out.trans hq)
    clear hq
    go_wp2_with fail
    refine (HXY.out _ H125.out _ HQ3.out.ps).mono ?_
    rintro e w4 ⟨rfl, hq⟩
    have HQ4 := Lib.hid (HQ3.out.trans hq)
    clear hq
    go_wp2_with fail
    go_ret2
    exact ⟨_, _, _, _, rfl, HQ4.out, by rw [HM.out]; rw [HM1.out]; simp only [if_pos H44.out, if_pos H125.out]; exact fits_ok⟩
   ·have H125 := Lib.hid h125
    clear h125 h44
    refine (HSN.out _ 0 H125.out _ HQ2.out.ps).mono ?_
    rintro e w3 ⟨rfl, hq⟩
    have HQ3 := Lib.hid (HQ2.out.trans hq)
    clear hq
    go_wp2_with fail
    refine (HBD.out _ _ HQ3.out.ps).mono ?_
    rintro e w4 ⟨hi, k, e2, rfl, hq, hhi, hr2⟩
    have HQ4 := Lib.hid (HQ3.out.trans hq)
    have HR2 := Lib.hid (fits_cases hr2)
    clear hq hr2
    have zhi : decide ((0 : Int) ≤ (hi : Int)) = true := decide_eq_true (by omega)
    have yhi : decide (0 ≤ hi) = true := decide_eq_true (Nat.zero_le _)
    by_cases hlt : hi < lo
    ·have z1 : decide ((hi : Int) < (lo : Int)) = true := decide_eq_true (by omega)
     have y1 : decide (hi < lo) = true := decide_eq_true hlt
     go_wp2_with fail
     refine (HF.out _ _ _ HQ4.out.ps).mono ?_
     rintro e w5 ⟨rfl, hq⟩
     have HQ5 := Lib.hid (HQ4.out.trans hq)
     clear hq
     go_wp2_with fail
     rcases HR2.out with ⟨hm, rfl⟩ | ⟨hm, he⟩
     ·have HM2 := Lib.hid hm
      clear hm
      refine (HXN.out _ _ (by rw [nxN_err (by decide)]; decide) _ HQ5.out.ps).mono ?_
      rintro e w6 ⟨rfl, hq⟩
      have HQ6 := Lib.hid (HQ5.out.trans hq)
      clear hq
      go_wp2_with fail
      go_ret2
      exact ⟨_, _, _, _, rfl, HQ6.out, by rw [HM.out]; rw [HM1.out]; simp only [if_pos H44.out, if_neg H125.out]; rw [HM2.out]; simp only [if_pos hlt]; exact fits_err (by decide)⟩
     ·have HM2 := Lib.hid hm
      have HE := Lib.hid he
      rw [if_neg he] at HQ5
      clear hm he
      refine (HXN.out _ _ (by rw [nxN_err HE.out]; decide) _ HQ5.out.ps).mono ?_
      rintro e w6 ⟨rfl, hq⟩
      have HQ6 := Lib.hid (HQ5.out.trans hq)
      clear hq
      go_wp2_with fail
      rw [if_neg HE.out] at HQ6
      go_ret2
      exact ⟨_, _, _, _, rfl, HQ6.out, by rw [HM.out]; rw [HM1.out]; simp only [if_pos H44.out, if_neg H125.out]; rw [HM2.out]; exact fits_err HE.out⟩
    ·have z1 : decide ((hi : Int) < (lo : Int)) = false := decide_eq_false (by omega)
     have y1 : decide (hi < lo) = false := decide_eq_false hlt
     go_wp2_with fail
     rcases HR2.out with ⟨hm, rfl⟩ | ⟨hm, he⟩
     ·have HM2 := Lib.hid hm
      clear hm
      by_cases h7 : Asc.at_ l k = 125
      ·have H7 := Lib.hid h7
       clear h7
       refine (HXY.out _ H7.out _ HQ4.out.ps).mono ?_
       rintro e w5 ⟨rfl, hq⟩
       have HQ5 := Lib.hid (HQ4.out.trans hq)
       clear hq
       go_wp2_with fail
       go_ret2
       exact ⟨_, _, _, _, rfl, HQ5.out, by rw [HM.out]; rw [HM1.out]; simp only [if_pos H44.out, if_neg H125.out]; rw [HM2.out]; simp only [if_neg hlt, if_pos H7.out]; exact fits_ok⟩
      ·have H7 := Lib.hid h7
       clear h7
       refine (HXN.out _ 0 H7.out _ HQ4.out.ps).mono ?_
       rintro e w5 ⟨rfl, hq⟩
       have HQ5 := Lib.hid (HQ4.out.trans hq)
       clear hq
       go_wp2_with fail
       go_ret2
       exact ⟨_, _, _, _, rfl, HQ5.out, by rw [HM.out]; rw [HM1.out]; simp only [if_pos H44.out, if_neg H125.out]; rw [HM2.out]; simp only [if_neg hlt, if_neg H7.out]; exact fits_err (by decide)⟩
     ·have HM2 := Lib.hid hm
      have HE := Lib.hid he
      clear hm he
      refine (HXN.out _ _ (by rw [nxN_err HE.out]; decide) _ HQ4.out.ps).mono ?_
      rintro e w5 ⟨rfl, hq⟩
      have HQ5 := Lib.hid (HQ4.out.trans hq)
      clear hq
      go_wp2_with fail
      rw [if_neg HE.out] at HQ5
      go_ret2
      exact ⟨_, _, _, _, rfl, HQ5.out, by rw [HM.out]; rw [HM1.out]; simp only [if_pos H44.out, if_neg H125.out]; rw [HM2.out]; exact fits_err HE.out⟩
  ·have H44 := Lib.hid h44
   clear h44
   refine (HTN.out _ 0 H44.out _ HQ1.out.ps).mono ?_
   rintro e w2 ⟨rfl, hq⟩
   have HQ2 := Lib.hid (HQ1.out.trans hq)
   clear hq
   go_wp2_with fail
   by_cases h7 : Asc.at_ l j = 125
   ·have H7 := Lib.hid h7
    clear h7
    refine (HXY.out _ H7.out _ HQ2.out.ps).mono ?_
    rintro e w3 ⟨rfl, hq⟩
    have HQ3 := Lib.hid (HQ2.out.trans hq)
    clear hq
    go_wp2_with fail
    go_ret2
    exact ⟨_, _, _, _, rfl, HQ3.out, by rw [HM.out]; rw [HM1.out]; simp only [if_neg H44.out, if_pos H7.out]; exact fits_ok⟩
   ·have H7 := Lib.hid h7
    clear h7
    refine (HXN.out _ 0 H7.out _ HQ2.out.ps).mono ?_
    rintro e w3 ⟨rfl, hq⟩
    have HQ3 := Lib.hid (HQ2.out.trans hq)
    clear hq
    go_wp2_with fail
    go_ret2
    exact ⟨_, _, _, _, rfl, HQ3.out, by rw [HM.out]; rw [HM1.out]; simp only [if_neg H44.out, if_neg H7.out]; exact fits_err (by decide)⟩
 ·have HM1 := Lib.hid hm
  have HE := Lib.hid he
  clear hm he
  refine (HTN.out _ _ (by rw [nxN_err HE.out]; decide) _ HQ1.out.ps).mono ?_
  rintro e w2 ⟨rfl, hq⟩
  have HQ2 := Lib.hid (HQ1.out.trans hq)
  clear hq
  go_wp2_with fail
  refine (HXN.out _ _ (by rw [nxN_err HE.out]; decide) _ HQ2.out.ps).mono ?_
  rintro e w3 ⟨rfl, hq⟩
  have HQ3 := Lib.hid (HQ2.out.trans hq)
  clear hq
  go_wp2_with fail
  rw [if_neg HE.out] at HQ3
  go_ret2
  exact ⟨_, _, _, _, rfl, HQ3.out, by rw [HM.out]; rw [HM1.out]; exact fits_err HE.out⟩
end Go.Proofs.YtmpbjaodgajnfaaGreatDoor
namespace Go.Proofs.YtmpbjaodgajnfaaGreatDoor
open Go.RowKit
def errAt (b : Nat) (w : World) : Nat := match w.cell? ⟨b, 2, none⟩ with
 | some (.int .i64 p) => p.toNat
 | _ => 0
theorem ZS.err {b : Nat} {l : List UInt8} {i e : Nat} {w : World} (h : ZS b l i e w) : errAt b w = e := by
 unfold errAt
 rw [h.c2]
 simp
def leftAt (b : Nat) (w : World) : Nat := if errAt b w = 0 then 1002 - posAt b w else 0
theorem ZS.left {b : Nat} {l : List UInt8} {i e : Nat} {w : World} (h : ZS b l i e w) : leftAt b w = if e = 0 then 1002 - i else 0 := by
 unfold leftAt
 rw [h.err, h.pos]
theorem escM_lt {l : List UInt8} {i : Nat} {x : (Nat → Bool) × Nat × Bool} {j : Nat} (h : escM l i = .ok (x, j)) : j = i + 1 := by
 unfold escM at h
 repeat' split at h
 all_goals first
  | (injection h with h; injection h with _ h; exact h.symm)
  | cases h
theorem itemM_lt {l : List UInt8} {s : Bool} {i : Nat} {x : (Nat → Bool) × Nat × Bool} {j : Nat} (h : itemM l s i = .ok (x, j)) : i < j := by
 unfold itemM at h
 split at h
 ·split at h
  ·cases h
  ·have := escM_lt h
   omega
 ·split at h
  ·injection h with h
   injection h with _ h
   omega
  ·cases h
structure ZB (b : Nat) (l : List UInt8) (i e : Nat) (w : World) (q : Nat) (f : Nat → Bool) (W : World) : Prop where
 pr : ZR b l i e w W
 sb : SB q f W
 hq : w.heap.size < q
section
variable {b i e j e2 q : Nat} {l : List UInt8} {w W W' : World} {f g : Nat → Bool}
theorem ZB.go (h : ZB b l i e w q f W) (k : ZQ b l j e2 W W') : ZB b l j e2 w q f W' := ⟨h.pr.go k, h.sb.go k.ap (by have := h.pr.hb; have := h.hq; omega), h.hq⟩
theorem ZB.on (h : ZB b l i e w q f W) (k : Below W.heap.size W W') : ZB b l i e w q f W' := ⟨h.pr.on k, h.sb.on k h.sb.lt, h.hq⟩
theorem ZB.far (h : ZB b l i e w q f W) (k : Below q W W') (hs : SB q g W') : ZB b l i e w q g W' := ⟨h.pr.far (k.mono h.hq), hs, h.hq⟩
theorem ZB.past (h : ZB b l i e w q f W) {B : Nat} (k : Below B W W') (hB : q < B) : ZB b l i e w q f W' := ⟨h.pr.far (k.mono (by have := h.hq; omega)), h.sb.on k hB, h.hq⟩
theorem ZB.ps (h : ZB b l i e w q f W) : ZS b l i e W := h.pr.ps
end
theorem max8 (a c : UInt8) : ∃ m : UInt8, max (a.toNat : Int) (c.toNat : Int) = (m.toNat : Int) ∧ (¬ c.toNat < a.toNat → m = c) := by
 by_cases h : c.toNat < a.toNat
 ·exact ⟨a, by omega, fun h2 => absurd h h2⟩
 ·exact ⟨c, by omega, fun _ => rfl⟩
def BraI (l : List UInt8) (R : Out (Nat → Bool)) (first : Bool) (k e : Nat) (f : Nat → Bool) : Prop := (e = 0 ∧ ∃ n, l.length < k + n ∧ braL l n first k f = R) ∨ (e ≠ 0 ∧ R = .error (k, e))
theorem BraI.next {l : List UInt8} {R : Out (Nat → Bool)} {first : Bool} {k : Nat} {f : Nat → Bool} (h : BraI l R first k 0 f) (hk : k ≤ l.length) (hc : ¬ (first = false ∧ Asc.at_ l k = 93)) : ∃ n, l.length < k + n + 1 ∧ R = (match itemM l false k with
   | .error x => .error x
   | .ok ((s, lo, one), j) =>
    if one = true ∧ Asc.at_ l j = 45 then
     match itemM l true (j + 1) with
     | .error x => .error x
     | .ok ((_, hi, _), k) => if hi < lo then .error (k, 2) else braL l n false k (fun c => f c || spanF lo (hi + 1) c)
    else braL l n false j (fun c => f c || s c)) := by
 rcases h with ⟨_, n, hn, hr⟩ | ⟨h, _⟩
 ·cases n with
  | zero => omega
  | succ n =>
   rw [braL, if_neg hc] at hr
   exact ⟨n, by omega, hr.symm⟩
 ·exact absurd rfl h
theorem BraI.done {l : List UInt8} {R : Out (Nat → Bool)} {first : Bool} {k : Nat} {f : Nat → Bool} (h : BraI l R first k 0 f) (hk : k ≤ l.length) (hc : first = false ∧ Asc.at_ l k = 93) : R = .ok (f, k) := by
 rcases h with ⟨_, n, hn, hr⟩ | ⟨h, _⟩
 ·cases n with
  | zero => omega
  | succ n =>
   rw [braL, if_pos hc] at hr
   exact hr.symm
 ·exact absurd rfl h
set_option maxHeartbeats 16000000 in
set_option maxRecDepth 1000000 in
theorem bra_any (b : Nat) (l : List UInt8) (i : Nat) : RdZ 148 b l i (braM l i) := by
 intro w h
 have hv := (zero_of_info infoS).1
 obtain ⟨nt, hnt⟩ : ∃ nt : Bool, decide (Asc.at_ l i = 94) = nt := ⟨_, rfl⟩
 obtain ⟨i0, hi0⟩ : ∃ i0, (if Asc.at_ l i = 94 then i + 1 else i) = i0 := ⟨_, rfl⟩
 have HTK : Hid (∀ W, ZS b l i 0 W → Calls Tryz.prog 74 #[.pointer (some ⟨b, 0, none⟩), .int .u8 94] W fun r w' => r = .returned (.bool nt) ∧ ZQ b l i0 0 W w') := Lib.hid (fun W hW => by
  by_cases h9 : Asc.at_ l i = 94
  ·rw [← hnt, ← hi0, if_pos h9, decide_eq_true h9]
   exact ztakes_yes b l i W hW 94 h9 (by decide)
  ·rw [← hnt, ← hi0, if_neg h9, decide_eq_false h9]
   exact ztakes_no b l i 0 W hW 94 h9)
 have HIT := Lib.hid fun (k : Nat) (sg : Bool) W (hW : ZS b l k 0 W) => item_any b l sg k W hW
 have HSY := Lib.hid fun (k : Nat) (hk : Asc.at_ l k = 93) W (hW : ZS b l k 0 W) => zsees_yes b l k W hW 93 hk (by decide)
 have HSN := Lib.hid fun (k e : Nat) (hk : nxN l k e ≠ 93) W (hW : ZS b l k e W) => zsees_no b l k e W hW 93 hk
 have HTY := Lib.hid fun (k : Nat) (hk : Asc.at_ l k = 45) W (hW : ZS b l k 0 W) => ztakes_yes b l k W hW 45 hk (by decide)
 have HTN := Lib.hid fun (k e : Nat) (hk : nxN l k e ≠ 45) W (hW : ZS b l k e W) => ztakes_no b l k e W hW 45 hk
 have HXY := Lib.hid fun (k : Nat) (hk : Asc.at_ l k = 93) W (hW : ZS b l k 0 W) => zexpect_yes b l k W hW 93 hk (by decide)
 have HXN := Lib.hid fun (k e : Nat) (hk : nxN l k e ≠ 93) W (hW : ZS b l k e W) => zexpect_no b l k e W hW 93 hk
 have HF := Lib.hid fun (k e : Nat) W (hW : ZS b l k e W) => zfail b l k e 2 W hW
 have HM : Hid (braM l i = match braL l (l.length + 1) true i0 (fun _ => false) with
   | .error x => .error x
   | .ok (f, j) => .ok (clsT (if nt = true then (fun c => !f c) else f), j + 1)) := Lib.hid (by
  unfold braM
  rw [hi0, ← hnt]
  by_cases h9 : Asc.at_ l i = 94
  ·simp only [if_pos h9, decide_eq_true h9, if_true]
   rfl
  ·simp only [if_neg h9, decide_eq_false h9, Bool.false_eq_true, if_false]
   rfl)
 have HS := Lib.hid (ZR.start h)
 clear h hnt hi0
 obtain ⟨R, hR⟩ : ∃ R, braL l (l.length + 1) true i0 (fun _ => false) = R := ⟨_, rfl⟩
 rw [hR] at HM
 have HR0 := Lib.hid hR
 clear hR
 go_enter Tryz.func148, Tryz.ntmps148
 go_wp2_with fail
 refine (HTK.out _ HS.out.ps).mono ?_
 rintro e w1 ⟨rfl, hq⟩
 have HS1 := Lib.hid (HS.out.go hq)
 clear hq HS
 go_wp2_with fail
 rw [← setA_false]
 obtain ⟨q, hq⟩ : ∃ q, w1.heap.size = q := ⟨_, rfl⟩
 have HB1 : Hid (ZB b l i0 0 w q (fun _ => false) (w1.alloc (.cells (setA (fun _ => false)) 213))) := Lib.hid ⟨HS1.out.on (al_below _ _), hq ▸ SB.new w1 _, hq ▸ HS1.out.sz⟩
 rw [hq]
 clear hq HS1
 go_loopw [5] (fun fv wr => ∃ (first : Bool) (k e : Nat) (f : Nat → Bool), fv = .bool first ∧ Hid (BraI l R first k e f) ∧ Hid (ZB b l k e w q f wr)) (fun _ wr => leftAt b wr)
 case atStart => exact ⟨true, i0, 0, _, rfl, Lib.hid (.inl ⟨rfl, l.length + 1, by omega, HR0.out⟩), HB1⟩
 case round =>
  obtain ⟨first, k, e, f, rfl, HI, HZ⟩ := hrel
  clear HB1 HR0
  by_cases he : e = 0
  ·subst he
   have c2 : wr.cell? ⟨b, 2, none⟩ = some (.int .i64 0) := HZ.out.ps.c2
   have hkl := HZ.out.ps.le
   have hl2 := HZ.out.ps.len
   cases first with
   | true =>
    obtain ⟨n, hn, hrn⟩ := HI.out.next hkl (by simp)
    have HRN := Lib.hid hrn
    have HNN := Lib.hid hn
    clear hrn hn
    go_wp2_with fail
    clear c2
    refine (HIT.out _ false _ HZ.out.ps).mono ?_
    rintro e w3 ⟨s, lo, one, j, e3, rfl, hq, hlo, hr3⟩
    have HZ3 := Lib.hid (HZ.out.go hq)
    have HR3 := Lib.hid (fits_cases hr3)
    clear hq hr3
    have hbq : w3.heap.size ≠ b := by have := HZ3.out.pr.hb; have := HZ3.out.pr.sz; omega
    have hpn := put_new w3 (fun _ => false) s 213
    rw [setA_false] at hpn
    obtain ⟨lo8, rfl⟩ : ∃ c : UInt8, lo = c.toNat := ⟨UInt8.ofNat lo, (ofNat8 hlo).symm⟩
    have HZ4 := Lib.hid (HZ3.out.on (al_below w3 (.cells (setA s) 213)))
    have HSB := Lib.hid (SB.new w3 s)
    cases one with
    | true =>
     by_cases h45 : nxN l j e3 = 45
     ·obtain rfl : e3 = 0 := Decidable.byContradiction fun hne => by rw [nxN_err hne] at h45; cases h45
      have H45 := Lib.hid h45
      have hm3 : itemM l false k = .ok ((s, lo8.toNat, true), j) := by rcases HR3.out with ⟨h, _⟩ | ⟨_, h⟩; (exact h); (exact absurd rfl h)
      have HM3 := Lib.hid hm3
      clear h45 hm3
      go_wp2_with fail
      refine (HTY.out _ H45.out _ HZ4.out.ps).mono ?_
      rintro e w5 ⟨rfl, hq⟩
      have HZ5 := Lib.hid (HZ4.out.go hq)
      have HSB5 := Lib.hid (HSB.out.go hq.ap hbq)
      clear hq
      go_wp2_with fail
      refine (HIT.out _ true _ HZ5.out.ps).mono ?_
      rintro e w6 ⟨s2, hi, one2, k2, e6, rfl, hq, hhi, hr6⟩
      have HZ6 := Lib.hid (HZ5.out.go hq)
      have HSB6 := Lib.hid (HSB5.out.go hq.ap hbq)
      have HR6 := Lib.hid (fits_cases hr6)
      clear hq hr6
      have hpn2 := put_new w6 (fun _ => false) s2 213
      rw [setA_false] at hpn2
      obtain ⟨hi8, rfl⟩ : ∃ c : UInt8, hi = c.toNat := ⟨UInt8.ofNat hi, (ofNat8 hhi).symm⟩
      have HZ7 := Lib.hid (HZ6.out.on (al_below w6 (.cells (setA s2) 213)))
      have HSB7 := Lib.hid (HSB6.out.on (al_below w6 (.cells (setA s2) 213)) HSB6.out.lt)
      by_cases he6 : e6 = 0
      ·subst he6
       have c2 : (w6.alloc (.cells (setA s2) 213)).cell? ⟨b, 2, none⟩ = some (.int .i64 0) := HZ7.out.ps.c2
       have hm6 : itemM l true (j + 1) = .ok ((s2, hi8.toNat, one2), k2) := by rcases HR6.out with ⟨h, _⟩ | ⟨_, h⟩; (exact h); (exact absurd rfl h)
       have HM6 := Lib.hid hm6
       clear hm6
       by_cases hlt : hi8.toNat < lo8.toNat
       ·have z1 : decide ((hi8.toNat : Int) < (lo8.toNat : Int)) = true := decide_eq_true (by omega)
        have y1 : decide (hi8.toNat < lo8.toNat) = true := decide_eq_true hlt
        go_wp2_with fail
        clear c2
        refine (HF.out _ _ _ HZ7.out.ps).mono ?_
        rintro e w8 ⟨rfl, hq⟩
        have HZ8 := Lib.hid (HZ7.out.go hq)
        have HSB8 := Lib.hid (HSB7.out.go hq.ap hbq)
        clear hq
        rw [if_pos rfl] at HZ8
        go_wp2_with fail
        obtain ⟨m8, hm8, hmr⟩ := max8 lo8 hi8
        rw [hm8]
        refine (span_any lo8 m8 _).mono ?_
        rintro e w9 ⟨rfl, hb⟩
        have HZ9 := Lib.hid (HZ8.out.on hb)
        have HSB9 := Lib.hid (HSB8.out.on hb HSB8.out.lt)
        obtain ⟨g, hg⟩ : ∃ g, spanF lo8.toNat (m8.toNat + 1) = g := ⟨_, rfl⟩
        rw [hg]
        have HG := Lib.hid hg
        clear hb hm8 hg
        obtain ⟨w10, e10, h10, hb10, e10'⟩ := put_set2 HSB9.out g
        have HZ10 := Lib.hid (HZ9.out.past hb10 HZ3.out.sb.lt)
        have HSB10 : Hid (SB w3.heap.size g w10) := Lib.hid h10
        clear hb10 h10
        have hld := HZ10.out.sb
        have hsb := HSB10.out
        go_wp2_with (first | (refine wpl_load_set rfl _ rfl q rfl _ hld ?_) | (refine wpl_load_set rfl _ rfl w3.heap.size rfl _ hsb ?_))
        clear hld hsb
        refine (with_any _ _ _).mono ?_
        rintro e w15 ⟨rfl, hb⟩
        have HZ15 := Lib.hid (HZ10.out.on hb)
        clear hb
        obtain ⟨w16, e16, h16, hb16, e16'⟩ := put_set2 HZ15.out.sb (fun c => f c || g c)
        have HZ16 := Lib.hid (HZ15.out.far hb16 h16)
        clear hb16
        go_wp2_with fail
        exact ⟨⟨false, _, _, _, rfl, Lib.hid (by exact .inr ⟨by decide, by have h9 := HRN.out; rw [HM3.out] at h9; rw [h9]; refine (if_pos ⟨rfl, H45.out⟩).trans ?_; rw [HM6.out]; exact if_pos hlt⟩), HZ16⟩, by rw [HZ16.out.ps.left, HZ.out.ps.left, if_pos rfl, if_neg (by decide)]; omega⟩
       ·have z1 : decide ((hi8.toNat : Int) < (lo8.toNat : Int)) = false := decide_eq_false (by omega)
        have y1 : decide (hi8.toNat < lo8.toNat) = false := decide_eq_false hlt
        go_wp2_with fail
        obtain ⟨m8, hm8, hmr⟩ := max8 lo8 hi8
        rw [hm8]
        refine (span_any lo8 m8 _).mono ?_
        rintro e w9 ⟨rfl, hb⟩
        have HZ9 := Lib.hid (HZ7.out.on hb)
        have HSB9 := Lib.hid (HSB7.out.on hb HSB7.out.lt)
        obtain ⟨g, hg⟩ : ∃ g, spanF lo8.toNat (m8.toNat + 1) = g := ⟨_, rfl⟩
        rw [hg]
        have HG := Lib.hid hg
        clear hb hm8 hg
        obtain ⟨w10, e10, h10, hb10, e10'⟩ := put_set2 HSB9.out g
        have HZ10 := Lib.hid (HZ9.out.past hb10 HZ3.out.sb.lt)
        have HSB10 : Hid (SB w3.heap.size g w10) := Lib.hid h10
        clear hb10 h10
        have hld := HZ10.out.sb
        have hsb := HSB10.out
        go_wp2_with (first | (refine wpl_load_set rfl _ rfl q rfl _ hld ?_) | (refine wpl_load_set rfl _ rfl w3.heap.size rfl _ hsb ?_))
        clear hld hsb
        refine (with_any _ _ _).mono ?_
        rintro e w15 ⟨rfl, hb⟩
        have HZ15 := Lib.hid (HZ10.out.on hb)
        clear hb
        obtain ⟨w16, e16, h16, hb16, e16'⟩ := put_set2 HZ15.out.sb (fun c => f c || g c)
        have HZ16 := Lib.hid (HZ15.out.far hb16 h16)
        clear hb16
        go_wp2_with fail
        exact ⟨⟨false, _, _, _, rfl, Lib.hid (by exact .inl ⟨rfl, n, by have := itemM_lt HM3.out; have := itemM_lt HM6.out; have := HNN.out; omega, by have h9 := HRN.out; rw [HM3.out] at h9; rw [h9]; refine Eq.symm ((if_pos ⟨rfl, H45.out⟩).trans ?_); rw [HM6.out]; refine (if_neg hlt).trans ?_; rw [← HG.out, hmr hlt]⟩), HZ16⟩, by rw [HZ16.out.ps.left, HZ.out.ps.left, if_pos rfl, if_pos rfl]; have := itemM_lt HM3.out; have := itemM_lt HM6.out; omega⟩
      ·have HE6 := Lib.hid he6
       have z1 : ((e6 : Int) == 0) = false := by rw [beq_eq_false_iff_ne]; omega
       have c2 := HZ7.out.ps.c2
       go_wp2_with fail
       obtain ⟨m8, hm8, hmr⟩ := max8 lo8 hi8
       rw [hm8]
       refine (span_any lo8 m8 _).mono ?_
       rintro e w9 ⟨rfl, hb⟩
       have HZ9 := Lib.hid (HZ7.out.on hb)
       have HSB9 := Lib.hid (HSB7.out.on hb HSB7.out.lt)
       obtain ⟨g, hg⟩ : ∃ g, spanF lo8.toNat (m8.toNat + 1) = g := ⟨_, rfl⟩
       rw [hg]
       have HG := Lib.hid hg
       clear hb hm8 hg
       obtain ⟨w10, e10, h10, hb10, e10'⟩ := put_set2 HSB9.out g
       have HZ10 := Lib.hid (HZ9.out.past hb10 HZ3.out.sb.lt)
       have HSB10 : Hid (SB w3.heap.size g w10) := Lib.hid h10
       clear hb10 h10
       have hld := HZ10.out.sb
       have hsb := HSB10.out
       go_wp2_with (first | (refine wpl_load_set rfl _ rfl q rfl _ hld ?_) | (refine wpl_load_set rfl _ rfl w3.heap.size rfl _ hsb ?_))
       clear hld hsb
       refine (with_any _ _ _).mono ?_
       rintro e w15 ⟨rfl, hb⟩
       have HZ15 := Lib.hid (HZ10.out.on hb)
       clear hb
       obtain ⟨w16, e16, h16, hb16, e16'⟩ := put_set2 HZ15.out.sb (fun c => f c || g c)
       have HZ16 := Lib.hid (HZ15.out.far hb16 h16)
       clear hb16
       go_wp2_with fail
       exact ⟨⟨false, _, _, _, rfl, Lib.hid (by rcases HR6.out with ⟨_, h⟩ | ⟨hm, _⟩; (exact absurd h HE6.out); (exact .inr ⟨HE6.out, by have h9 := HRN.out; rw [HM3.out] at h9; rw [h9]; refine (if_pos ⟨rfl, H45.out⟩).trans ?_; rw [hm]⟩)), HZ16⟩, by rw [HZ16.out.ps.left, HZ.out.ps.left, if_pos rfl, if_neg HE6.out]; omega⟩
     ·have H45 := Lib.hid h45
      clear h45
      go_wp2_with fail
      refine (HTN.out _ _ H45.out _ HZ4.out.ps).mono ?_
      rintro e w5 ⟨rfl, hq⟩
      have HZ5 := Lib.hid (HZ4.out.go hq)
      have HSB5 := Lib.hid (HSB.out.go hq.ap hbq)
      clear hq
      have hld := HZ5.out.sb
      have hsb := HSB5.out
      go_wp2_with (first | (refine wpl_load_set rfl _ rfl q rfl _ hld ?_) | (refine wpl_load_set rfl _ rfl w3.heap.size rfl _ hsb ?_))
      clear hld hsb
      refine (with_any _ _ _).mono ?_
      rintro e w15 ⟨rfl, hb⟩
      have HZ15 := Lib.hid (HZ5.out.on hb)
      clear hb
      obtain ⟨w16, e16, h16, hb16, e16'⟩ := put_set2 HZ15.out.sb (fun c => f c || s c)
      have HZ16 := Lib.hid (HZ15.out.far hb16 h16)
      clear hb16
      go_wp2_with fail
      exact ⟨⟨false, _, _, _, rfl, Lib.hid (by rcases HR3.out with ⟨hm, rfl⟩ | ⟨hm, he⟩; (exact .inl ⟨rfl, n, by have := itemM_lt hm; have := HNN.out; omega, by have h9 := HRN.out; rw [hm] at h9; rw [h9]; exact (if_neg (fun h => H45.out h.2)).symm⟩); (exact .inr ⟨he, by rw [HRN.out, hm]⟩)), HZ16⟩, by rw [HZ16.out.ps.left, HZ.out.ps.left, if_pos rfl]; rcases HR3.out with ⟨hm, rfl⟩ | ⟨hm, he⟩; (have := itemM_lt hm; rw [if_pos rfl]; omega); (rw [if_neg he]; omega)⟩
    | false =>
     have hld := HZ4.out.sb
     have hsb := HSB.out
     go_wp2_with (first | (refine wpl_load_set rfl _ rfl q rfl _ hld ?_) | (refine wpl_load_set rfl _ rfl w3.heap.size rfl _ hsb ?_))
     clear hld hsb
     refine (with_any _ _ _).mono ?_
     rintro e w15 ⟨rfl, hb⟩
     have HZ15 := Lib.hid (HZ4.out.on hb)
     clear hb
     obtain ⟨w16, e16, h16, hb16, e16'⟩ := put_set2 HZ15.out.sb (fun c => f c || s c)
     have HZ16 := Lib.hid (HZ15.out.far hb16 h16)
     clear hb16
     go_wp2_with fail
     exact ⟨⟨false, _, _, _, rfl, Lib.hid (by rcases HR3.out with ⟨hm, rfl⟩ | ⟨hm, he⟩; (exact .inl ⟨rfl, n, by have := itemM_lt hm; have := HNN.out; omega, by have h9 := HRN.out; rw [hm] at h9; rw [h9]; exact (if_neg (fun h => by cases h.1)).symm⟩); (exact .inr ⟨he, by rw [HRN.out, hm]⟩)), HZ16⟩, by rw [HZ16.out.ps.left, HZ.out.ps.left, if_pos rfl]; rcases HR3.out with ⟨hm, rfl⟩ | ⟨hm, he⟩; (have := itemM_lt hm; rw [if_pos rfl]; omega); (rw [if_neg he]; omega)⟩
   | false =>
    by_cases h93 : Asc.at_ l k = 93
    ·have H93 := Lib.hid h93
     have HRD := Lib.hid (HI.out.done hkl ⟨rfl, h93⟩)
     clear h93
     go_wp2_with fail
     clear c2
     refine (HSY.out _ H93.out _ HZ.out.ps).mono ?_
     rintro e w2 ⟨rfl, hq⟩
     have HZ2 := Lib.hid (HZ.out.go hq)
     clear hq
     go_wp2_with fail
     refine (HXY.out _ H93.out _ HZ2.out.ps).mono ?_
     rintro e w3 ⟨rfl, hq⟩
     have HZ3 := Lib.hid (HZ2.out.go hq)
     clear hq
     cases nt with
     | false =>
      have hld := HZ3.out.sb
      go_wp2_with (refine wpl_load_set rfl _ rfl q rfl _ hld ?_)
      clear hld
      refine (class_any _ _).mono ?_
      rintro e w20 ⟨v, rfl, hT, hb⟩
      have HSz := Lib.hid (HZ3.out.pr.on hb)
      have HTz := Lib.hid (hT.up HZ3.out.pr.sz)
      obtain ⟨op, rs, nm, kids, mn, mx, ra, rc, a, cc, ht, rfl, _⟩ := hT.open
      clear hT hb ht
      obtain ⟨k0, k1, k2, k3, k4, k5, f0, f1, f2, f3, f4, f5⟩ := bk6 HSz.out.bk
      go_wp2_with fail
      rw [nest6 w20]
      exact node_retz (P := 2) rfl HSz.out _ _ rfl (by rfl) HTz.out (by rw [HM.out, HRD.out]; exact fits_ok)
     | true =>
      have hld := HZ3.out.sb
      go_wp2_with (refine wpl_load_set rfl _ rfl q rfl _ hld ?_)
      clear hld
      refine (not_any f _).mono ?_
      rintro e w18 ⟨rfl, hb⟩
      have HZ18 := Lib.hid (HZ3.out.on hb)
      clear hb
      obtain ⟨w19, e19, h19, hb19, e19'⟩ := put_set2 HZ18.out.sb (fun c => !f c)
      have HZ19 := Lib.hid (HZ18.out.far hb19 h19)
      clear hb19
      go_wp2_with (refine wpl_load_set rfl _ rfl q rfl _ h19 ?_)
      refine (class_any _ _).mono ?_
      rintro e w20 ⟨v, rfl, hT, hb⟩
      have HSz := Lib.hid (HZ19.out.pr.on hb)
      have HTz := Lib.hid (hT.up HZ19.out.pr.sz)
      obtain ⟨op, rs, nm, kids, mn, mx, ra, rc, a, cc, ht, rfl, _⟩ := hT.open
      clear hT hb ht
      obtain ⟨k0, k1, k2, k3, k4, k5, f0, f1, f2, f3, f4, f5⟩ := bk6 HSz.out.bk
      go_wp2_with fail
      rw [nest6 w20]
      exact node_retz (P := 2) rfl HSz.out _ _ rfl (by rfl) HTz.out (by rw [HM.out, HRD.out]; exact fits_ok)
    ·have H93 := Lib.hid h93
     obtain ⟨n, hn, hrn⟩ := HI.out.next hkl (by simpa using h93)
     have HRN := Lib.hid hrn
     have HNN := Lib.hid hn
     clear hrn hn h93
     go_wp2_with fail
     clear c2
     refine (HSN.out _ 0 H93.out _ HZ.out.ps).mono ?_
     rintro e w2 ⟨rfl, hq⟩
     have HZ2 := Lib.hid (HZ.out.go hq)
     clear hq
     go_wp2_with fail
     refine (HIT.out _ false _ HZ2.out.ps).mono ?_
     rintro e w3 ⟨s, lo, one, j, e3, rfl, hq, hlo, hr3⟩
     have HZ3 := Lib.hid (HZ2.out.go hq)
     have HR3 := Lib.hid (fits_cases hr3)
     clear hq hr3
     have hbq : w3.heap.size ≠ b := by have := HZ3.out.pr.hb; have := HZ3.out.pr.sz; omega
     have hpn := put_new w3 (fun _ => false) s 213
     rw [setA_false] at hpn
     obtain ⟨lo8, rfl⟩ : ∃ c : UInt8, lo = c.toNat := ⟨UInt8.ofNat lo, (ofNat8 hlo).symm⟩
     have HZ4 := Lib.hid (HZ3.out.on (al_below w3 (.cells (setA s) 213)))
     have HSB := Lib.hid (SB.new w3 s)
     cases one with
     | true =>
      by_cases h45 : nxN l j e3 = 45
      ·obtain rfl : e3 = 0 := Decidable.byContradiction fun hne => by rw [nxN_err hne] at h45; cases h45
       have H45 := Lib.hid h45
       have hm3 : itemM l false k = .ok ((s, lo8.toNat, true), j) := by rcases HR3.out with ⟨h, _⟩ | ⟨_, h⟩; (exact h); (exact absurd rfl h)
       have HM3 := Lib.hid hm3
       clear h45 hm3
       go_wp2_with fail
       refine (HTY.out _ H45.out _ HZ4.out.ps).mono ?_
       rintro e w5 ⟨rfl, hq⟩
       have HZ5 := Lib.hid (HZ4.out.go hq)
       have HSB5 := Lib.hid (HSB.out.go hq.ap hbq)
       clear hq
       go_wp2_with fail
       refine (HIT.out _ true _ HZ5.out.ps).mono ?_
       rintro e w6 ⟨s2, hi, one2, k2, e6, rfl, hq, hhi, hr6⟩
       have HZ6 := Lib.hid (HZ5.out.go hq)
       have HSB6 := Lib.hid (HSB5.out.go hq.ap hbq)
       have HR6 := Lib.hid (fits_cases hr6)
       clear hq hr6
       have hpn2 := put_new w6 (fun _ => false) s2 213
       rw [setA_false] at hpn2
       obtain ⟨hi8, rfl⟩ : ∃ c : UInt8, hi = c.toNat := ⟨UInt8.ofNat hi, (ofNat8 hhi).symm⟩
       have HZ7 := Lib.hid (HZ6.out.on (al_below w6 (.cells (setA s2) 213)))
       have HSB7 := Lib.hid (HSB6.out.on (al_below w6 (.cells (setA s2) 213)) HSB6.out.lt)
       by_cases he6 : e6 = 0
       ·subst he6
        have c2 : (w6.alloc (.cells (setA s2) 213)).cell? ⟨b, 2, none⟩ = some (.int .i64 0) := HZ7.out.ps.c2
        have hm6 : itemM l true (j + 1) = .ok ((s2, hi8.toNat, one2), k2) := by rcases HR6.out with ⟨h, _⟩ | ⟨_, h⟩; (exact h); (exact absurd rfl h)
        have HM6 := Lib.hid hm6
        clear hm6
        by_cases hlt : hi8.toNat < lo8.toNat
        ·have z1 : decide ((hi8.toNat : Int) < (lo8.toNat : Int)) = true := decide_eq_true (by omega)
         have y1 : decide (hi8.toNat < lo8.toNat) = true := decide_eq_true hlt
         go_wp2_with fail
         clear c2
         refine (HF.out _ _ _ HZ7.out.ps).mono ?_
         rintro e w8 ⟨rfl, hq⟩
         have HZ8 := Lib.hid (HZ7.out.go hq)
         have HSB8 := Lib.hid (HSB7.out.go hq.ap hbq)
         clear hq
         rw [if_pos rfl] at HZ8
         go_wp2_with fail
         obtain ⟨m8, hm8, hmr⟩ := max8 lo8 hi8
         rw [hm8]
         refine (span_any lo8 m8 _).mono ?_
         rintro e w9 ⟨rfl, hb⟩
         have HZ9 := Lib.hid (HZ8.out.on hb)
         have HSB9 := Lib.hid (HSB8.out.on hb HSB8.out.lt)
         obtain ⟨g, hg⟩ : ∃ g, spanF lo8.toNat (m8.toNat + 1) = g := ⟨_, rfl⟩
         rw [hg]
         have HG := Lib.hid hg
         clear hb hm8 hg
         obtain ⟨w10, e10, h10, hb10, e10'⟩ := put_set2 HSB9.out g
         have HZ10 := Lib.hid (HZ9.out.past hb10 HZ3.out.sb.lt)
         have HSB10 : Hid (SB w3.heap.size g w10) := Lib.hid h10
         clear hb10 h10
         have hld := HZ10.out.sb
         have hsb := HSB10.out
         go_wp2_with (first | (refine wpl_load_set rfl _ rfl q rfl _ hld ?_) | (refine wpl_load_set rfl _ rfl w3.heap.size rfl _ hsb ?_))
         clear hld hsb
         refine (with_any _ _ _).mono ?_
         rintro e w15 ⟨rfl, hb⟩
         have HZ15 := Lib.hid (HZ10.out.on hb)
         clear hb
         obtain ⟨w16, e16, h16, hb16, e16'⟩ := put_set2 HZ15.out.sb (fun c => f c || g c)
         have HZ16 := Lib.hid (HZ15.out.far hb16 h16)
         clear hb16
         go_wp2_with fail
         exact ⟨⟨false, _, _, _, rfl, Lib.hid (by exact .inr ⟨by decide, by have h9 := HRN.out; rw [HM3.out] at h9; rw [h9]; refine (if_pos ⟨rfl, H45.out⟩).trans ?_; rw [HM6.out]; exact if_pos hlt⟩), HZ16⟩, by rw [HZ16.out.ps.left, HZ.out.ps.left, if_pos rfl, if_neg (by decide)]; omega⟩
        ·have z1 : decide ((hi8.toNat : Int) < (lo8.toNat : Int)) = false := decide_eq_false (by omega)
         have y1 : decide (hi8.toNat < lo8.toNat) = false := decide_eq_false hlt
         go_wp2_with fail
         obtain ⟨m8, hm8, hmr⟩ := max8 lo8 hi8
         rw [hm8]
         refine (span_any lo8 m8 _).mono ?_
         rintro e w9 ⟨rfl, hb⟩
         have HZ9 := Lib.hid (HZ7.out.on hb)
         have HSB9 := Lib.hid (HSB7.out.on hb HSB7.out.lt)
         obtain ⟨g, hg⟩ : ∃ g, spanF lo8.toNat (m8.toNat + 1) = g := ⟨_, rfl⟩
         rw [hg]
         have HG := Lib.hid hg
         clear hb hm8 hg
         obtain ⟨w10, e10, h10, hb10, e10'⟩ := put_set2 HSB9.out g
         have HZ10 := Lib.hid (HZ9.out.past hb10 HZ3.out.sb.lt)
         have HSB10 : Hid (SB w3.heap.size g w10) := Lib.hid h10
         clear hb10 h10
         have hld := HZ10.out.sb
         have hsb := HSB10.out
         go_wp2_with (first | (refine wpl_load_set rfl _ rfl q rfl _ hld ?_) | (refine wpl_load_set rfl _ rfl w3.heap.size rfl _ hsb ?_))
         clear hld hsb
         refine (with_any _ _ _).mono ?_
         rintro e w15 ⟨rfl, hb⟩
         have HZ15 := Lib.hid (HZ10.out.on hb)
         clear hb
         obtain ⟨w16, e16, h16, hb16, e16'⟩ := put_set2 HZ15.out.sb (fun c => f c || g c)
         have HZ16 := Lib.hid (HZ15.out.far hb16 h16)
         clear hb16
         go_wp2_with fail
         exact ⟨⟨false, _, _, _, rfl, Lib.hid (by exact .inl ⟨rfl, n, by have := itemM_lt HM3.out; have := itemM_lt HM6.out; have := HNN.out; omega, by have h9 := HRN.out; rw [HM3.out] at h9; rw [h9]; refine Eq.symm ((if_pos ⟨rfl, H45.out⟩).trans ?_); rw [HM6.out]; refine (if_neg hlt).trans ?_; rw [← HG.out, hmr hlt]⟩), HZ16⟩, by rw [HZ16.out.ps.left, HZ.out.ps.left, if_pos rfl, if_pos rfl]; have := itemM_lt HM3.out; have := itemM_lt HM6.out; omega⟩
       ·have HE6 := Lib.hid he6
        have z1 : ((e6 : Int) == 0) = false := by rw [beq_eq_false_iff_ne]; omega
        have c2 := HZ7.out.ps.c2
        go_wp2_with fail
        obtain ⟨m8, hm8, hmr⟩ := max8 lo8 hi8
        rw [hm8]
        refine (span_any lo8 m8 _).mono ?_
        rintro e w9 ⟨rfl, hb⟩
        have HZ9 := Lib.hid (HZ7.out.on hb)
        have HSB9 := Lib.hid (HSB7.out.on hb HSB7.out.lt)
        obtain ⟨g, hg⟩ : ∃ g, spanF lo8.toNat (m8.toNat + 1) = g := ⟨_, rfl⟩
        rw [hg]
        have HG := Lib.hid hg
        clear hb hm8 hg
        obtain ⟨w10, e10, h10, hb10, e10'⟩ := put_set2 HSB9.out g
        have HZ10 := Lib.hid (HZ9.out.past hb10 HZ3.out.sb.lt)
        have HSB10 : Hid (SB w3.heap.size g w10) := Lib.hid h10
        clear hb10 h10
        have hld := HZ10.out.sb
        have hsb := HSB10.out
        go_wp2_with (first | (refine wpl_load_set rfl _ rfl q rfl _ hld ?_) | (refine wpl_load_set rfl _ rfl w3.heap.size rfl _ hsb ?_))
        clear hld hsb
        refine (with_any _ _ _).mono ?_
        rintro e w15 ⟨rfl, hb⟩
        have HZ15 := Lib.hid (HZ10.out.on hb)
        clear hb
        obtain ⟨w16, e16, h16, hb16, e16'⟩ := put_set2 HZ15.out.sb (fun c => f c || g c)
        have HZ16 := Lib.hid (HZ15.out.far hb16 h16)
        clear hb16
        go_wp2_with fail
        exact ⟨⟨false, _, _, _, rfl, Lib.hid (by rcases HR6.out with ⟨_, h⟩ | ⟨hm, _⟩; (exact absurd h HE6.out); (exact .inr ⟨HE6.out, by have h9 := HRN.out; rw [HM3.out] at h9; rw [h9]; refine (if_pos ⟨rfl, H45.out⟩).trans ?_; rw [hm]⟩)), HZ16⟩, by rw [HZ16.out.ps.left, HZ.out.ps.left, if_pos rfl, if_neg HE6.out]; omega⟩
      ·have H45 := Lib.hid h45
       clear h45
       go_wp2_with fail
       refine (HTN.out _ _ H45.out _ HZ4.out.ps).mono ?_
       rintro e w5 ⟨rfl, hq⟩
       have HZ5 := Lib.hid (HZ4.out.go hq)
       have HSB5 := Lib.hid (HSB.out.go hq.ap hbq)
       clear hq
       have hld := HZ5.out.sb
       have hsb := HSB5.out
       go_wp2_with (first | (refine wpl_load_set rfl _ rfl q rfl _ hld ?_) | (refine wpl_load_set rfl _ rfl w3.heap.size rfl _ hsb ?_))
       clear hld hsb
       refine (with_any _ _ _).mono ?_
       rintro e w15 ⟨rfl, hb⟩
       have HZ15 := Lib.hid (HZ5.out.on hb)
       clear hb
       obtain ⟨w16, e16, h16, hb16, e16'⟩ := put_set2 HZ15.out.sb (fun c => f c || s c)
       have HZ16 := Lib.hid (HZ15.out.far hb16 h16)
       clear hb16
       go_wp2_with fail
       exact ⟨⟨false, _, _, _, rfl, Lib.hid (by rcases HR3.out with ⟨hm, rfl⟩ | ⟨hm, he⟩; (exact .inl ⟨rfl, n, by have := itemM_lt hm; have := HNN.out; omega, by have h9 := HRN.out; rw [hm] at h9; rw [h9]; exact (if_neg (fun h => H45.out h.2)).symm⟩); (exact .inr ⟨he, by rw [HRN.out, hm]⟩)), HZ16⟩, by rw [HZ16.out.ps.left, HZ.out.ps.left, if_pos rfl]; rcases HR3.out with ⟨hm, rfl⟩ | ⟨hm, he⟩; (have := itemM_lt hm; rw [if_pos rfl]; omega); (rw [if_neg he]; omega)⟩
     | false =>
      have hld := HZ4.out.sb
      have hsb := HSB.out
      go_wp2_with (first | (refine wpl_load_set rfl _ rfl q rfl _ hld ?_) | (refine wpl_load_set rfl _ rfl w3.heap.size rfl _ hsb ?_))
      clear hld hsb
      refine (with_any _ _ _).mono ?_
      rintro e w15 ⟨rfl, hb⟩
      have HZ15 := Lib.hid (HZ4.out.on hb)
      clear hb
      obtain ⟨w16, e16, h16, hb16, e16'⟩ := put_set2 HZ15.out.sb (fun c => f c || s c)
      have HZ16 := Lib.hid (HZ15.out.far hb16 h16)
      clear hb16
      go_wp2_with fail
      exact ⟨⟨false, _, _, _, rfl, Lib.hid (by rcases HR3.out with ⟨hm, rfl⟩ | ⟨hm, he⟩; (exact .inl ⟨rfl, n, by have := itemM_lt hm; have := HNN.out; omega, by have h9 := HRN.out; rw [hm] at h9; rw [h9]; exact (if_neg (fun h => by cases h.1)).symm⟩); (exact .inr ⟨he, by rw [HRN.out, hm]⟩)), HZ16⟩, by rw [HZ16.out.ps.left, HZ.out.ps.left, if_pos rfl]; rcases HR3.out with ⟨hm, rfl⟩ | ⟨hm, he⟩; (have := itemM_lt hm; rw [if_pos rfl]; omega); (rw [if_neg he]; omega)⟩
  ·have HE := Lib.hid he
   have HRE : Hid (R = .error (k, e)) := Lib.hid (by rcases HI.out with ⟨h, _⟩ | ⟨_, h⟩; (exact absurd h he); (exact h))
   have c2 := HZ.out.ps.c2
   have z1 : ((e : Int) == 0) = false := by rw [beq_eq_false_iff_ne]; omega
   clear he
   go_wp2_with fail
   clear c2 z1
   refine (HXN.out _ _ (by rw [nxN_err HE.out]; decide) _ HZ.out.ps).mono ?_
   rintro e w3 ⟨rfl, hq⟩
   have HZ3 := Lib.hid (HZ.out.go hq)
   clear hq
   rw [if_neg HE.out] at HZ3
   cases nt with
   | false =>
    have hld := HZ3.out.sb
    go_wp2_with (refine wpl_load_set rfl _ rfl q rfl _ hld ?_)
    clear hld
    refine (class_any _ _).mono ?_
    rintro e w20 ⟨v, rfl, hT, hb⟩
    have HSz := Lib.hid (HZ3.out.pr.on hb)
    have HTz := Lib.hid (hT.up HZ3.out.pr.sz)
    obtain ⟨op, rs, nm, kids, mn, mx, ra, rc, a, cc, ht, rfl, _⟩ := hT.open
    clear hT hb ht
    obtain ⟨k0, k1, k2, k3, k4, k5, f0, f1, f2, f3, f4, f5⟩ := bk6 HSz.out.bk
    go_wp2_with fail
    rw [nest6 w20]
    exact node_retz (P := 2) rfl HSz.out _ _ rfl (by rfl) HTz.out (by rw [HM.out, HRE.out]; exact fits_err HE.out)
   | true =>
    have hld := HZ3.out.sb
    go_wp2_with (refine wpl_load_set rfl _ rfl q rfl _ hld ?_)
    clear hld
    refine (not_any f _).mono ?_
    rintro e w18 ⟨rfl, hb⟩
    have HZ18 := Lib.hid (HZ3.out.on hb)
    clear hb
    obtain ⟨w19, e19, h19, hb19, e19'⟩ := put_set2 HZ18.out.sb (fun c => !f c)
    have HZ19 := Lib.hid (HZ18.out.far hb19 h19)
    clear hb19
    go_wp2_with (refine wpl_load_set rfl _ rfl q rfl _ h19 ?_)
    refine (class_any _ _).mono ?_
    rintro e w20 ⟨v, rfl, hT, hb⟩
    have HSz := Lib.hid (HZ19.out.pr.on hb)
    have HTz := Lib.hid (hT.up HZ19.out.pr.sz)
    obtain ⟨op, rs, nm, kids, mn, mx, ra, rc, a, cc, ht, rfl, _⟩ := hT.open
    clear hT hb ht
    obtain ⟨k0, k1, k2, k3, k4, k5, f0, f1, f2, f3, f4, f5⟩ := bk6 HSz.out.bk
    go_wp2_with fail
    rw [nest6 w20]
    exact node_retz (P := 2) rfl HSz.out _ _ rfl (by rfl) HTz.out (by rw [HM.out, HRE.out]; exact fits_err HE.out)
end Go.Proofs.YtmpbjaodgajnfaaGreatDoor
namespace Go.Proofs.YtmpbjaodgajnfaaGreatDoor
open Go.RowKit
set_option maxHeartbeats 4000000 in
set_option maxRecDepth 1000000 in
theorem atomz_group (b : Nat) (l : List UInt8) (i : Nat) (r : Out NT) (hc : Asc.at_ l i = 40) (hg : RdZ 147 b l (i + 1) r) : RdZ 129 b l i r := by
 intro w h
 have HT : Hid (∀ d : Nat, d < 256 → Asc.at_ l i ≠ d → ∀ W, ZS b l i 0 W → Calls Tryz.prog 74 #[.pointer (some ⟨b, 0, none⟩), .int .u8 (d : Int)] W fun r w' => r = .returned (.bool false) ∧ ZQ b l i 0 W w') := Lib.hid (fun d _ hd W hW => ztakes_no b l i 0 W hW d hd)
 have HS := Lib.hid (ZR.start h)
 have HC := Lib.hid hc
 have HY := Lib.hid fun W (hW : ZS b l i 0 W) => ztakes_yes b l i W hW 40 hc (by decide)
 have HN := Lib.hid fun W (hW : ZS b l i 0 W) => znext_ok b l i W hW 40 hc (by decide)
 clear hc
 have HG := Lib.hid hg
 clear hg
 clear h
 go_enter Tryz.func129, Tryz.ntmps129
 go_wp2_with fail
 refine (HN.out _ HS.out.ps).mono ?_
 rintro e w1 ⟨rfl, hq⟩
 have HS1 := Lib.hid (HS.out.go hq)
 clear hq HS
 go_wp2_with fail
 refine (HY.out _ HS1.out.ps).mono ?_
 rintro e wy ⟨rfl, hq⟩
 have HSy := Lib.hid (HS1.out.go hq)
 clear hq HS1
 go_wp2_with fail
 refine (HG.out _ HSy.out.ps).mono ?_
 rintro e wz ⟨v, t, j, e2, rfl, hT, hb, hr⟩
 have HSz := Lib.hid (HSy.out.go hb)
 have HTz := Lib.hid (hT.up HSy.out.sz)
 have HR := Lib.hid hr
 obtain ⟨op, rs, nm, kids, mn, mx, ra, rc, a, cc, ht, rfl, _⟩ := hT.open
 clear hT hb ht hr
 obtain ⟨k0, k1, k2, k3, k4, k5, f0, f1, f2, f3, f4, f5⟩ := bk6 HSz.out.bk
 go_wp2_with fail
 rw [nest6 wz]
 exact node_retz (P := 2) rfl HSz.out _ _ rfl (by rfl) HTz.out HR.out
set_option maxHeartbeats 4000000 in
set_option maxRecDepth 1000000 in
theorem atomz_bra (b : Nat) (l : List UInt8) (i : Nat) (r : Out NT) (hc : Asc.at_ l i = 91) (hg : RdZ 148 b l (i + 1) r) : RdZ 129 b l i r := by
 intro w h
 have HT : Hid (∀ d : Nat, d < 256 → Asc.at_ l i ≠ d → ∀ W, ZS b l i 0 W → Calls Tryz.prog 74 #[.pointer (some ⟨b, 0, none⟩), .int .u8 (d : Int)] W fun r w' => r = .returned (.bool false) ∧ ZQ b l i 0 W w') := Lib.hid (fun d _ hd W hW => ztakes_no b l i 0 W hW d hd)
 have HS := Lib.hid (ZR.start h)
 have HC := Lib.hid hc
 have HY := Lib.hid fun W (hW : ZS b l i 0 W) => ztakes_yes b l i W hW 91 hc (by decide)
 have HN := Lib.hid fun W (hW : ZS b l i 0 W) => znext_ok b l i W hW 91 hc (by decide)
 clear hc
 have HG := Lib.hid hg
 clear hg
 clear h
 go_enter Tryz.func129, Tryz.ntmps129
 go_wp2_with fail
 refine (HN.out _ HS.out.ps).mono ?_
 rintro e w1 ⟨rfl, hq⟩
 have HS1 := Lib.hid (HS.out.go hq)
 clear hq HS
 go_wp2_with fail
 refine (HT.out 40 (by decide) (by rw [HC.out]; decide) _ HS1.out.ps).mono ?_
 rintro e w2 ⟨rfl, hq⟩
 have HS2 := Lib.hid (HS1.out.go hq)
 clear hq HS1
 go_wp2_with fail
 refine (HY.out _ HS2.out.ps).mono ?_
 rintro e wy ⟨rfl, hq⟩
 have HSy := Lib.hid (HS2.out.go hq)
 clear hq HS2
 go_wp2_with fail
 refine (HG.out _ HSy.out.ps).mono ?_
 rintro e wz ⟨v, t, j, e2, rfl, hT, hb, hr⟩
 have HSz := Lib.hid (HSy.out.go hb)
 have HTz := Lib.hid (hT.up HSy.out.sz)
 have HR := Lib.hid hr
 obtain ⟨op, rs, nm, kids, mn, mx, ra, rc, a, cc, ht, rfl, _⟩ := hT.open
 clear hT hb ht hr
 obtain ⟨k0, k1, k2, k3, k4, k5, f0, f1, f2, f3, f4, f5⟩ := bk6 HSz.out.bk
 go_wp2_with fail
 rw [nest6 wz]
 exact node_retz (P := 2) rfl HSz.out _ _ rfl (by rfl) HTz.out HR.out
set_option maxHeartbeats 4000000 in
set_option maxRecDepth 1000000 in
theorem atomz_dot (b : Nat) (l : List UInt8) (i : Nat) (hc : Asc.at_ l i = 46) : RdZ 129 b l i (.ok (clsT (fun c => !spanF 10 11 c), i + 1)) := by
 intro w h
 have HT : Hid (∀ d : Nat, d < 256 → Asc.at_ l i ≠ d → ∀ W, ZS b l i 0 W → Calls Tryz.prog 74 #[.pointer (some ⟨b, 0, none⟩), .int .u8 (d : Int)] W fun r w' => r = .returned (.bool false) ∧ ZQ b l i 0 W w') := Lib.hid (fun d _ hd W hW => ztakes_no b l i 0 W hW d hd)
 have HS := Lib.hid (ZR.start h)
 have HC := Lib.hid hc
 have HY := Lib.hid fun W (hW : ZS b l i 0 W) => ztakes_yes b l i W hW 46 hc (by decide)
 have HN := Lib.hid fun W (hW : ZS b l i 0 W) => znext_ok b l i W hW 46 hc (by decide)
 clear hc
 have HSN := Lib.hid (fun W => (show Calls Tryz.prog 149 #[.int .u8 10, .int .u8 10] W (fun e w' => e = .returned (.agg (setA (spanF 10 11))) ∧ Below W.heap.size W w') from span_any 10 10 W))
 clear h
 go_enter Tryz.func129, Tryz.ntmps129
 go_wp2_with fail
 refine (HN.out _ HS.out.ps).mono ?_
 rintro e w1 ⟨rfl, hq⟩
 have HS1 := Lib.hid (HS.out.go hq)
 clear hq HS
 go_wp2_with fail
 refine (HT.out 40 (by decide) (by rw [HC.out]; decide) _ HS1.out.ps).mono ?_
 rintro e w2 ⟨rfl, hq⟩
 have HS2 := Lib.hid (HS1.out.go hq)
 clear hq HS1
 go_wp2_with fail
 refine (HT.out 91 (by decide) (by rw [HC.out]; decide) _ HS2.out.ps).mono ?_
 rintro e w3 ⟨rfl, hq⟩
 have HS3 := Lib.hid (HS2.out.go hq)
 clear hq HS2
 go_wp2_with fail
 refine (HY.out _ HS3.out.ps).mono ?_
 rintro e wy ⟨rfl, hq⟩
 have HSy := Lib.hid (HS3.out.go hq)
 clear hq HS3
 go_wp2_with fail
 refine (HSN.out _).mono ?_
 rintro e wa ⟨rfl, hb⟩
 have HSa := Lib.hid (HSy.out.on hb)
 clear hb HSy
 go_wp2_with fail
 refine (not_any _ _).mono ?_
 rintro e wb ⟨rfl, hb⟩
 have HSx := Lib.hid (HSa.out.on hb)
 clear hb HSa
 go_wp2_with fail
 refine (class_any _ _).mono ?_
 rintro e wz ⟨v, rfl, hT, hb⟩
 have HSz := Lib.hid (HSx.out.on hb)
 have HTz := Lib.hid (hT.up HSx.out.sz)
 obtain ⟨op, rs, nm, kids, mn, mx, ra, rc, a, cc, ht, rfl, _⟩ := hT.open
 clear hT hb ht
 obtain ⟨k0, k1, k2, k3, k4, k5, f0, f1, f2, f3, f4, f5⟩ := bk6 HSz.out.bk
 go_wp2_with fail
 rw [nest6 wz]
 exact node_retz (P := 2) rfl HSz.out _ _ rfl (by rfl) HTz.out fits_ok
set_option maxHeartbeats 4000000 in
set_option maxRecDepth 1000000 in
theorem atomz_beg (b : Nat) (l : List UInt8) (i : Nat) (hc : Asc.at_ l i = 94) : RdZ 129 b l i (.ok (.node 6 [] [] [] 0 0, i + 1)) := by
 intro w h
 have HT : Hid (∀ d : Nat, d < 256 → Asc.at_ l i ≠ d → ∀ W, ZS b l i 0 W → Calls Tryz.prog 74 #[.pointer (some ⟨b, 0, none⟩), .int .u8 (d : Int)] W fun r w' => r = .returned (.bool false) ∧ ZQ b l i 0 W w') := Lib.hid (fun d _ hd W hW => ztakes_no b l i 0 W hW d hd)
 have HS := Lib.hid (ZR.start h)
 have HC := Lib.hid hc
 have HY := Lib.hid fun W (hW : ZS b l i 0 W) => ztakes_yes b l i W hW 94 hc (by decide)
 have HN := Lib.hid fun W (hW : ZS b l i 0 W) => znext_ok b l i W hW 94 hc (by decide)
 clear hc
 clear h
 go_enter Tryz.func129, Tryz.ntmps129
 go_wp2_with fail
 refine (HN.out _ HS.out.ps).mono ?_
 rintro e w1 ⟨rfl, hq⟩
 have HS1 := Lib.hid (HS.out.go hq)
 clear hq HS
 go_wp2_with fail
 refine (HT.out 40 (by decide) (by rw [HC.out]; decide) _ HS1.out.ps).mono ?_
 rintro e w2 ⟨rfl, hq⟩
 have HS2 := Lib.hid (HS1.out.go hq)
 clear hq HS1
 go_wp2_with fail
 refine (HT.out 91 (by decide) (by rw [HC.out]; decide) _ HS2.out.ps).mono ?_
 rintro e w3 ⟨rfl, hq⟩
 have HS3 := Lib.hid (HS2.out.go hq)
 clear hq HS2
 go_wp2_with fail
 refine (HT.out 46 (by decide) (by rw [HC.out]; decide) _ HS3.out.ps).mono ?_
 rintro e w4 ⟨rfl, hq⟩
 have HS4 := Lib.hid (HS3.out.go hq)
 clear hq HS3
 go_wp2_with fail
 refine (HY.out _ HS4.out.ps).mono ?_
 rintro e wy ⟨rfl, hq⟩
 have HSy := Lib.hid (HS4.out.go hq)
 clear hq HS4
 obtain ⟨k0, k1, k2, k3, k4, k5, f0, f1, f2, f3, f4, f5⟩ := bk6 HSy.out.bk
 go_wp2_with fail
 rw [nest6]
 exact node_retz (P := 2) rfl HSy.out _ _ rfl (by rfl) (NG.node (rs := []) (kids := []) RW.nil RW.nil 6 [] 0 0 (by simp)) fits_ok
set_option maxHeartbeats 4000000 in
set_option maxRecDepth 1000000 in
theorem atomz_end (b : Nat) (l : List UInt8) (i : Nat) (hc : Asc.at_ l i = 36) : RdZ 129 b l i (.ok (.node 7 [] [] [] 0 0, i + 1)) := by
 intro w h
 have HT : Hid (∀ d : Nat, d < 256 → Asc.at_ l i ≠ d → ∀ W, ZS b l i 0 W → Calls Tryz.prog 74 #[.pointer (some ⟨b, 0, none⟩), .int .u8 (d : Int)] W fun r w' => r = .returned (.bool false) ∧ ZQ b l i 0 W w') := Lib.hid (fun d _ hd W hW => ztakes_no b l i 0 W hW d hd)
 have HS := Lib.hid (ZR.start h)
 have HC := Lib.hid hc
 have HY := Lib.hid fun W (hW : ZS b l i 0 W) => ztakes_yes b l i W hW 36 hc (by decide)
 have HN := Lib.hid fun W (hW : ZS b l i 0 W) => znext_ok b l i W hW 36 hc (by decide)
 clear hc
 clear h
 go_enter Tryz.func129, Tryz.ntmps129
 go_wp2_with fail
 refine (HN.out _ HS.out.ps).mono ?_
 rintro e w1 ⟨rfl, hq⟩
 have HS1 := Lib.hid (HS.out.go hq)
 clear hq HS
 go_wp2_with fail
 refine (HT.out 40 (by decide) (by rw [HC.out]; decide) _ HS1.out.ps).mono ?_
 rintro e w2 ⟨rfl, hq⟩
 have HS2 := Lib.hid (HS1.out.go hq)
 clear hq HS1
 go_wp2_with fail
 refine (HT.out 91 (by decide) (by rw [HC.out]; decide) _ HS2.out.ps).mono ?_
 rintro e w3 ⟨rfl, hq⟩
 have HS3 := Lib.hid (HS2.out.go hq)
 clear hq HS2
 go_wp2_with fail
 refine (HT.out 46 (by decide) (by rw [HC.out]; decide) _ HS3.out.ps).mono ?_
 rintro e w4 ⟨rfl, hq⟩
 have HS4 := Lib.hid (HS3.out.go hq)
 clear hq HS3
 go_wp2_with fail
 refine (HT.out 94 (by decide) (by rw [HC.out]; decide) _ HS4.out.ps).mono ?_
 rintro e w5 ⟨rfl, hq⟩
 have HS5 := Lib.hid (HS4.out.go hq)
 clear hq HS4
 go_wp2_with fail
 refine (HY.out _ HS5.out.ps).mono ?_
 rintro e wy ⟨rfl, hq⟩
 have HSy := Lib.hid (HS5.out.go hq)
 clear hq HS5
 obtain ⟨k0, k1, k2, k3, k4, k5, f0, f1, f2, f3, f4, f5⟩ := bk6 HSy.out.bk
 go_wp2_with fail
 rw [nest6]
 exact node_retz (P := 2) rfl HSy.out _ _ rfl (by rfl) (NG.node (rs := []) (kids := []) RW.nil RW.nil 7 [] 0 0 (by simp)) fits_ok
set_option maxHeartbeats 4000000 in
set_option maxRecDepth 1000000 in
theorem atomz_esc (b : Nat) (l : List UInt8) (i : Nat) (r : Out NT) (hres : ∀ s c one j e, fits (escM l (i + 1)) (s, c, one) j e → fits r (clsT s) j e) (hc : Asc.at_ l i = 92) : RdZ 129 b l i r := by
 intro w h
 have HT : Hid (∀ d : Nat, d < 256 → Asc.at_ l i ≠ d → ∀ W, ZS b l i 0 W → Calls Tryz.prog 74 #[.pointer (some ⟨b, 0, none⟩), .int .u8 (d : Int)] W fun r w' => r = .returned (.bool false) ∧ ZQ b l i 0 W w') := Lib.hid (fun d _ hd W hW => ztakes_no b l i 0 W hW d hd)
 have HS := Lib.hid (ZR.start h)
 have HC := Lib.hid hc
 have HY := Lib.hid fun W (hW : ZS b l i 0 W) => ztakes_yes b l i W hW 92 hc (by decide)
 have HN := Lib.hid fun W (hW : ZS b l i 0 W) => znext_ok b l i W hW 92 hc (by decide)
 clear hc
 have HRES := Lib.hid hres
 clear hres
 have HE := Lib.hid fun W (hW : ZS b l (i + 1) 0 W) => esc_any b l (i + 1) W hW
 have hv := (zero_of_info infoS).1
 clear h
 go_enter Tryz.func129, Tryz.ntmps129
 go_wp2_with fail
 refine (HN.out _ HS.out.ps).mono ?_
 rintro e w1 ⟨rfl, hq⟩
 have HS1 := Lib.hid (HS.out.go hq)
 clear hq HS
 go_wp2_with fail
 refine (HT.out 40 (by decide) (by rw [HC.out]; decide) _ HS1.out.ps).mono ?_
 rintro e w2 ⟨rfl, hq⟩
 have HS2 := Lib.hid (HS1.out.go hq)
 clear hq HS1
 go_wp2_with fail
 refine (HT.out 91 (by decide) (by rw [HC.out]; decide) _ HS2.out.ps).mono ?_
 rintro e w3 ⟨rfl, hq⟩
 have HS3 := Lib.hid (HS2.out.go hq)
 clear hq HS2
 go_wp2_with fail
 refine (HT.out 46 (by decide) (by rw [HC.out]; decide) _ HS3.out.ps).mono ?_
 rintro e w4 ⟨rfl, hq⟩
 have HS4 := Lib.hid (HS3.out.go hq)
 clear hq HS3
 go_wp2_with fail
 refine (HT.out 94 (by decide) (by rw [HC.out]; decide) _ HS4.out.ps).mono ?_
 rintro e w5 ⟨rfl, hq⟩
 have HS5 := Lib.hid (HS4.out.go hq)
 clear hq HS4
 go_wp2_with fail
 refine (HT.out 36 (by decide) (by rw [HC.out]; decide) _ HS5.out.ps).mono ?_
 rintro e w6 ⟨rfl, hq⟩
 have HS6 := Lib.hid (HS5.out.go hq)
 clear hq HS5
 go_wp2_with fail
 refine (HY.out _ HS6.out.ps).mono ?_
 rintro e wy ⟨rfl, hq⟩
 have HSy := Lib.hid (HS6.out.go hq)
 clear hq HS6
 go_wp2_with fail
 refine (HE.out _ HSy.out.ps).mono ?_
 rintro e we ⟨s, c, one, j, e2, rfl, hq, hc8, hr⟩
 have HSe := Lib.hid (HSy.out.go hq)
 have HR := Lib.hid (HRES.out _ _ _ _ _ hr)
 clear hq HSy hr hc8
 have hpn := put_new we (fun _ => false) s 213
 rw [setA_false] at hpn
 have HSx := Lib.hid (HSe.out.on (al_below we (.cells (setA s) 213)))
 have hsb := SB.new we s
 go_wp2_with (refine wpl_load_set rfl _ rfl we.heap.size rfl _ hsb ?_)
 clear hsb hpn
 refine (class_any _ _).mono ?_
 rintro e wz ⟨v, rfl, hT, hb⟩
 have HSz := Lib.hid (HSx.out.on hb)
 have HTz := Lib.hid (hT.up HSx.out.sz)
 obtain ⟨op, rs, nm, kids, mn, mx, ra, rc, a, cc, ht, rfl, _⟩ := hT.open
 clear hT hb ht
 obtain ⟨k0, k1, k2, k3, k4, k5, f0, f1, f2, f3, f4, f5⟩ := bk6 HSz.out.bk
 go_wp2_with fail
 rw [nest6 wz]
 exact node_retz (P := 2) rfl HSz.out _ _ rfl (by rfl) HTz.out HR.out
set_option maxHeartbeats 4000000 in
set_option maxRecDepth 1000000 in
theorem atomz_plain (b : Nat) (l : List UInt8) (i : Nat) (c : UInt8) (hc : Asc.at_ l i = c.toNat) (hnn : ∀ d : UInt8, d ∈ [40, 91, 46, 94, 36, 92] → d ≠ c) (hs : c ∉ spec) (h1 : 32 ≤ c.toNat) (h2 : c.toNat ≤ 126) : RdZ 129 b l i (.ok (clsT (spanF c.toNat (c.toNat + 1)), i + 1)) := by
 intro w h
 have HT : Hid (∀ d : Nat, d < 256 → Asc.at_ l i ≠ d → ∀ W, ZS b l i 0 W → Calls Tryz.prog 74 #[.pointer (some ⟨b, 0, none⟩), .int .u8 (d : Int)] W fun r w' => r = .returned (.bool false) ∧ ZQ b l i 0 W w') := Lib.hid (fun d _ hd W hW => ztakes_no b l i 0 W hW d hd)
 have HS := Lib.hid (ZR.start h)
 have hc8 : c.toNat < 256 := UInt8.toNat_lt c
 have HN := Lib.hid fun W (hW : ZS b l i 0 W) => znext_ok b l i W hW c.toNat hc hc8
 have HNE : Hid (∀ d : UInt8, d ∈ [40, 91, 46, 94, 36, 92] → Asc.at_ l i ≠ d.toNat) := Lib.hid (fun d hd e => hnn d hd (UInt8.toNat_inj.1 (e.symm.trans hc)))
 have hl : i < l.length := Asc.at_lt (by omega)
 have hl2 := h.len
 have hw : IntKind.i64.wrap ((i : Int) + 1) = (i : Int) + 1 := IntWalk.i64_in _ (by omega)
 have HL := Lib.hid hl
 have HPR := Lib.hid fun W => printable_yes c.toNat W h1 h2
 have HSP := Lib.hid fun W => special_no c W hs
 have HSN := Lib.hid fun W => span_any c c W
 obtain ⟨f, hf⟩ : ∃ f, spanF c.toNat (c.toNat + 1) = f := ⟨_, rfl⟩
 rw [hf] at HSN ⊢
 clear hc hnn hs h1 h2 hl hf hc8
 clear h
 go_enter Tryz.func129, Tryz.ntmps129
 go_wp2_with fail
 refine (HN.out _ HS.out.ps).mono ?_
 rintro e w1 ⟨rfl, hq⟩
 have HS1 := Lib.hid (HS.out.go hq)
 clear hq HS
 go_wp2_with fail
 refine (HT.out 40 (by decide) (by exact HNE.out 40 (by decide)) _ HS1.out.ps).mono ?_
 rintro e w2 ⟨rfl, hq⟩
 have HS2 := Lib.hid (HS1.out.go hq)
 clear hq HS1
 go_wp2_with fail
 refine (HT.out 91 (by decide) (by exact HNE.out 91 (by decide)) _ HS2.out.ps).mono ?_
 rintro e w3 ⟨rfl, hq⟩
 have HS3 := Lib.hid (HS2.out.go hq)
 clear hq HS2
 go_wp2_with fail
 refine (HT.out 46 (by decide) (by exact HNE.out 46 (by decide)) _ HS3.out.ps).mono ?_
 rintro e w4 ⟨rfl, hq⟩
 have HS4 := Lib.hid (HS3.out.go hq)
 clear hq HS3
 go_wp2_with fail
 refine (HT.out 94 (by decide) (by exact HNE.out 94 (by decide)) _ HS4.out.ps).mono ?_
 rintro e w5 ⟨rfl, hq⟩
 have HS5 := Lib.hid (HS4.out.go hq)
 clear hq HS4
 go_wp2_with fail
 refine (HT.out 36 (by decide) (by exact HNE.out 36 (by decide)) _ HS5.out.ps).mono ?_
 rintro e w6 ⟨rfl, hq⟩
 have HS6 := Lib.hid (HS5.out.go hq)
 clear hq HS5
 go_wp2_with fail
 refine (HT.out 92 (by decide) (by exact HNE.out 92 (by decide)) _ HS6.out.ps).mono ?_
 rintro e w7 ⟨rfl, hq⟩
 have HS7 := Lib.hid (HS6.out.go hq)
 clear hq HS6
 have c1 := HS7.out.ps.c1
 have f1 := HS7.out.ps.f1
 go_wp2_with fail
 refine (HPR.out _).mono ?_
 rintro e wp ⟨rfl, rfl⟩
 go_wp2_with fail
 refine (HSP.out _).mono ?_
 rintro e wp ⟨rfl, rfl⟩
 go_wp2_with fail
 have HS8 := Lib.hid (HS7.out.go (HS7.out.ps.to (i + 1) HL.out))
 refine (HSN.out _).mono ?_
 rintro e w9 ⟨rfl, hb⟩
 have HSx := Lib.hid (HS8.out.on hb)
 clear hb HS8
 clear HS7 c1 f1
 go_wp2_with fail
 refine (class_any _ _).mono ?_
 rintro e wz ⟨v, rfl, hT, hb⟩
 have HSz := Lib.hid (HSx.out.on hb)
 have HTz := Lib.hid (hT.up HSx.out.sz)
 obtain ⟨op, rs, nm, kids, mn, mx, ra, rc, a, cc, ht, rfl, _⟩ := hT.open
 clear hT hb ht
 obtain ⟨k0, k1, k2, k3, k4, k5, f0, f1, f2, f3, f4, f5⟩ := bk6 HSz.out.bk
 go_wp2_with fail
 rw [nest6 wz]
 exact node_retz (P := 2) rfl HSz.out _ _ rfl (by rfl) HTz.out fits_ok
set_option maxHeartbeats 4000000 in
set_option maxRecDepth 1000000 in
theorem atomz_none (b : Nat) (l : List UInt8) (i : Nat) (hc : Asc.at_ l i = 999) : RdZ 129 b l i (.error (i, 1)) := by
 intro w h
 have HT : Hid (∀ d : Nat, d < 256 → Asc.at_ l i ≠ d → ∀ W, ZS b l i 0 W → Calls Tryz.prog 74 #[.pointer (some ⟨b, 0, none⟩), .int .u8 (d : Int)] W fun r w' => r = .returned (.bool false) ∧ ZQ b l i 0 W w') := Lib.hid (fun d _ hd W hW => ztakes_no b l i 0 W hW d hd)
 have HS := Lib.hid (ZR.start h)
 have HC := Lib.hid hc
 have HN := Lib.hid fun W (hW : ZS b l i 0 W) => znext_no b l i 0 W hW hc
 have HPR := Lib.hid fun W => (show Calls Tryz.prog 153 #[.int .u8 0] W _ from printable_no 0 W (.inl (by decide)))
 clear hc
 have HF := Lib.hid fun W (hW : ZS b l i 0 W) => zfail b l i 0 1 W hW
 simp only [if_true] at HF
 clear h
 go_enter Tryz.func129, Tryz.ntmps129
 go_wp2_with fail
 refine (HN.out _ HS.out.ps).mono ?_
 rintro e w1 ⟨rfl, hq⟩
 have HS1 := Lib.hid (HS.out.go hq)
 clear hq HS
 go_wp2_with fail
 refine (HT.out 40 (by decide) (by rw [HC.out]; decide) _ HS1.out.ps).mono ?_
 rintro e w2 ⟨rfl, hq⟩
 have HS2 := Lib.hid (HS1.out.go hq)
 clear hq HS1
 go_wp2_with fail
 refine (HT.out 91 (by decide) (by rw [HC.out]; decide) _ HS2.out.ps).mono ?_
 rintro e w3 ⟨rfl, hq⟩
 have HS3 := Lib.hid (HS2.out.go hq)
 clear hq HS2
 go_wp2_with fail
 refine (HT.out 46 (by decide) (by rw [HC.out]; decide) _ HS3.out.ps).mono ?_
 rintro e w4 ⟨rfl, hq⟩
 have HS4 := Lib.hid (HS3.out.go hq)
 clear hq HS3
 go_wp2_with fail
 refine (HT.out 94 (by decide) (by rw [HC.out]; decide) _ HS4.out.ps).mono ?_
 rintro e w5 ⟨rfl, hq⟩
 have HS5 := Lib.hid (HS4.out.go hq)
 clear hq HS4
 go_wp2_with fail
 refine (HT.out 36 (by decide) (by rw [HC.out]; decide) _ HS5.out.ps).mono ?_
 rintro e w6 ⟨rfl, hq⟩
 have HS6 := Lib.hid (HS5.out.go hq)
 clear hq HS5
 go_wp2_with fail
 refine (HT.out 92 (by decide) (by rw [HC.out]; decide) _ HS6.out.ps).mono ?_
 rintro e w7 ⟨rfl, hq⟩
 have HS7 := Lib.hid (HS6.out.go hq)
 clear hq HS6
 go_wp2_with fail
 refine (HPR.out _).mono ?_
 rintro e wp ⟨rfl, rfl⟩
 go_wp2_with fail
 refine (HF.out _ HS7.out.ps).mono ?_
 rintro e w8 ⟨rfl, hq⟩
 have HS8 := Lib.hid (HS7.out.go hq)
 clear hq HS7
 obtain ⟨k0, k1, k2, k3, k4, k5, f0, f1, f2, f3, f4, f5⟩ := bk6 HS8.out.bk
 go_wp2_with fail
 rw [nest6]
 exact zero_retz (P := 2) rfl HS8.out _ _ rfl (by rfl) (by decide) rfl
set_option maxHeartbeats 4000000 in
set_option maxRecDepth 1000000 in
theorem atomz_odd (b : Nat) (l : List UInt8) (i : Nat) (c : UInt8) (hc : Asc.at_ l i = c.toNat) (hnn : ∀ d : UInt8, d ∈ [40, 91, 46, 94, 36, 92] → d ≠ c) (h1 : c.toNat < 32 ∨ 126 < c.toNat) : RdZ 129 b l i (.error (i, 1)) := by
 intro w h
 have HT : Hid (∀ d : Nat, d < 256 → Asc.at_ l i ≠ d → ∀ W, ZS b l i 0 W → Calls Tryz.prog 74 #[.pointer (some ⟨b, 0, none⟩), .int .u8 (d : Int)] W fun r w' => r = .returned (.bool false) ∧ ZQ b l i 0 W w') := Lib.hid (fun d _ hd W hW => ztakes_no b l i 0 W hW d hd)
 have HS := Lib.hid (ZR.start h)
 have hc8 : c.toNat < 256 := UInt8.toNat_lt c
 have HN := Lib.hid fun W (hW : ZS b l i 0 W) => znext_ok b l i W hW c.toNat hc hc8
 have HNE : Hid (∀ d : UInt8, d ∈ [40, 91, 46, 94, 36, 92] → Asc.at_ l i ≠ d.toNat) := Lib.hid (fun d hd e => hnn d hd (UInt8.toNat_inj.1 (e.symm.trans hc)))
 have HPR := Lib.hid fun W => printable_no c.toNat W h1
 clear hc hnn h1 hc8
 have HF := Lib.hid fun W (hW : ZS b l i 0 W) => zfail b l i 0 1 W hW
 simp only [if_true] at HF
 clear h
 go_enter Tryz.func129, Tryz.ntmps129
 go_wp2_with fail
 refine (HN.out _ HS.out.ps).mono ?_
 rintro e w1 ⟨rfl, hq⟩
 have HS1 := Lib.hid (HS.out.go hq)
 clear hq HS
 go_wp2_with fail
 refine (HT.out 40 (by decide) (by exact HNE.out 40 (by decide)) _ HS1.out.ps).mono ?_
 rintro e w2 ⟨rfl, hq⟩
 have HS2 := Lib.hid (HS1.out.go hq)
 clear hq HS1
 go_wp2_with fail
 refine (HT.out 91 (by decide) (by exact HNE.out 91 (by decide)) _ HS2.out.ps).mono ?_
 rintro e w3 ⟨rfl, hq⟩
 have HS3 := Lib.hid (HS2.out.go hq)
 clear hq HS2
 go_wp2_with fail
 refine (HT.out 46 (by decide) (by exact HNE.out 46 (by decide)) _ HS3.out.ps).mono ?_
 rintro e w4 ⟨rfl, hq⟩
 have HS4 := Lib.hid (HS3.out.go hq)
 clear hq HS3
 go_wp2_with fail
 refine (HT.out 94 (by decide) (by exact HNE.out 94 (by decide)) _ HS4.out.ps).mono ?_
 rintro e w5 ⟨rfl, hq⟩
 have HS5 := Lib.hid (HS4.out.go hq)
 clear hq HS4
 go_wp2_with fail
 refine (HT.out 36 (by decide) (by exact HNE.out 36 (by decide)) _ HS5.out.ps).mono ?_
 rintro e w6 ⟨rfl, hq⟩
 have HS6 := Lib.hid (HS5.out.go hq)
 clear hq HS5
 go_wp2_with fail
 refine (HT.out 92 (by decide) (by exact HNE.out 92 (by decide)) _ HS6.out.ps).mono ?_
 rintro e w7 ⟨rfl, hq⟩
 have HS7 := Lib.hid (HS6.out.go hq)
 clear hq HS6
 go_wp2_with fail
 refine (HPR.out _).mono ?_
 rintro e wp ⟨rfl, rfl⟩
 go_wp2_with fail
 refine (HF.out _ HS7.out.ps).mono ?_
 rintro e w8 ⟨rfl, hq⟩
 have HS8 := Lib.hid (HS7.out.go hq)
 clear hq HS7
 obtain ⟨k0, k1, k2, k3, k4, k5, f0, f1, f2, f3, f4, f5⟩ := bk6 HS8.out.bk
 go_wp2_with fail
 rw [nest6]
 exact zero_retz (P := 2) rfl HS8.out _ _ rfl (by rfl) (by decide) rfl
set_option maxHeartbeats 4000000 in
set_option maxRecDepth 1000000 in
theorem atomz_sign (b : Nat) (l : List UInt8) (i : Nat) (c : UInt8) (hc : Asc.at_ l i = c.toNat) (hnn : ∀ d : UInt8, d ∈ [40, 91, 46, 94, 36, 92] → d ≠ c) (h1 : 32 ≤ c.toNat) (h2 : c.toNat ≤ 126) (hs : c ∈ spec) : RdZ 129 b l i (.error (i, 1)) := by
 intro w h
 have HT : Hid (∀ d : Nat, d < 256 → Asc.at_ l i ≠ d → ∀ W, ZS b l i 0 W → Calls Tryz.prog 74 #[.pointer (some ⟨b, 0, none⟩), .int .u8 (d : Int)] W fun r w' => r = .returned (.bool false) ∧ ZQ b l i 0 W w') := Lib.hid (fun d _ hd W hW => ztakes_no b l i 0 W hW d hd)
 have HS := Lib.hid (ZR.start h)
 have hc8 : c.toNat < 256 := UInt8.toNat_lt c
 have HN := Lib.hid fun W (hW : ZS b l i 0 W) => znext_ok b l i W hW c.toNat hc hc8
 have HNE : Hid (∀ d : UInt8, d ∈ [40, 91, 46, 94, 36, 92] → Asc.at_ l i ≠ d.toNat) := Lib.hid (fun d hd e => hnn d hd (UInt8.toNat_inj.1 (e.symm.trans hc)))
 have HPR := Lib.hid fun W => printable_yes c.toNat W h1 h2
 have HI := Lib.hid fun W => (show Calls Tryz.prog 154 #[.string ⟨#[40, 41, 91, 93, 123, 125, 42, 43, 63, 124, 46, 94, 36, 92]⟩, .int .u8 (c.toNat : Int)] W _ from ib_yes spec c W hs)
 obtain ⟨K, hK⟩ : ∃ K, Asc.pos spec c = K := ⟨_, rfl⟩
 rw [hK] at HI
 have z0 : decide ((0 : Int) ≤ (K : Int)) = true := decide_eq_true (by omega)
 clear hc hnn h1 h2 hs hc8 hK
 have HF := Lib.hid fun W (hW : ZS b l i 0 W) => zfail b l i 0 1 W hW
 simp only [if_true] at HF
 clear h
 go_enter Tryz.func129, Tryz.ntmps129
 go_wp2_with fail
 refine (HN.out _ HS.out.ps).mono ?_
 rintro e w1 ⟨rfl, hq⟩
 have HS1 := Lib.hid (HS.out.go hq)
 clear hq HS
 go_wp2_with fail
 refine (HT.out 40 (by decide) (by exact HNE.out 40 (by decide)) _ HS1.out.ps).mono ?_
 rintro e w2 ⟨rfl, hq⟩
 have HS2 := Lib.hid (HS1.out.go hq)
 clear hq HS1
 go_wp2_with fail
 refine (HT.out 91 (by decide) (by exact HNE.out 91 (by decide)) _ HS2.out.ps).mono ?_
 rintro e w3 ⟨rfl, hq⟩
 have HS3 := Lib.hid (HS2.out.go hq)
 clear hq HS2
 go_wp2_with fail
 refine (HT.out 46 (by decide) (by exact HNE.out 46 (by decide)) _ HS3.out.ps).mono ?_
 rintro e w4 ⟨rfl, hq⟩
 have HS4 := Lib.hid (HS3.out.go hq)
 clear hq HS3
 go_wp2_with fail
 refine (HT.out 94 (by decide) (by exact HNE.out 94 (by decide)) _ HS4.out.ps).mono ?_
 rintro e w5 ⟨rfl, hq⟩
 have HS5 := Lib.hid (HS4.out.go hq)
 clear hq HS4
 go_wp2_with fail
 refine (HT.out 36 (by decide) (by exact HNE.out 36 (by decide)) _ HS5.out.ps).mono ?_
 rintro e w6 ⟨rfl, hq⟩
 have HS6 := Lib.hid (HS5.out.go hq)
 clear hq HS5
 go_wp2_with fail
 refine (HT.out 92 (by decide) (by exact HNE.out 92 (by decide)) _ HS6.out.ps).mono ?_
 rintro e w7 ⟨rfl, hq⟩
 have HS7 := Lib.hid (HS6.out.go hq)
 clear hq HS6
 go_wp2_with fail
 refine (HPR.out _).mono ?_
 rintro e wp ⟨rfl, rfl⟩
 go_wp2_with fail
 refine (HI.out _).mono ?_
 rintro e wp ⟨rfl, rfl⟩
 go_wp2_with fail
 refine (HF.out _ HS7.out.ps).mono ?_
 rintro e w8 ⟨rfl, hq⟩
 have HS8 := Lib.hid (HS7.out.go hq)
 clear hq HS7
 obtain ⟨k0, k1, k2, k3, k4, k5, f0, f1, f2, f3, f4, f5⟩ := bk6 HS8.out.bk
 go_wp2_with fail
 rw [nest6]
 exact zero_retz (P := 2) rfl HS8.out _ _ rfl (by rfl) (by decide) rfl
theorem spec_nat {c : UInt8} (h : c ∈ spec) : (spec.map UInt8.toNat).contains c.toNat = true := by
 rw [List.contains_iff_mem]
 exact List.mem_map_of_mem h
theorem spec_u8 {c : UInt8} (h : (spec.map UInt8.toNat).contains c.toNat = true) : c ∈ spec := by
 rw [List.contains_iff_mem] at h
 obtain ⟨d, hd, e⟩ := List.mem_map.1 h
 rwa [← UInt8.toNat_inj.1 e]
theorem atom_any (b : Nat) (l : List UInt8) (ch : Nat → Out NT) (i : Nat) (hg : Asc.at_ l i = 40 → RdZ 147 b l (i + 1) (grpM ch l (i + 1))) : RdZ 129 b l i (atomM ch l i) := by
 unfold atomM
 by_cases h1 : Asc.at_ l i = 40
 ·rw [if_pos h1]
  exact atomz_group b l i _ h1 (hg h1)
 rw [if_neg h1]
 by_cases h2 : Asc.at_ l i = 91
 ·rw [if_pos h2]
  exact atomz_bra b l i _ h2 (bra_any b l (i + 1))
 rw [if_neg h2]
 by_cases h3 : Asc.at_ l i = 46
 ·rw [if_pos h3]
  exact atomz_dot b l i h3
 rw [if_neg h3]
 by_cases h4 : Asc.at_ l i = 94
 ·rw [if_pos h4]
  exact atomz_beg b l i h4
 rw [if_neg h4]
 by_cases h5 : Asc.at_ l i = 36
 ·rw [if_pos h5]
  exact atomz_end b l i h5
 rw [if_neg h5]
 by_cases h6 : Asc.at_ l i = 92
 ·rw [if_pos h6]
  refine atomz_esc b l i _ (fun s c one j e hf => ?_) h6
  rcases fits_cases hf with ⟨hm, rfl⟩ | ⟨hm, he⟩
  ·rw [hm]
   exact fits_ok
  ·rw [hm]
   exact fits_err he
 rw [if_neg h6]
 rcases at_two l i with h9 | h9
 ·obtain ⟨c, hc⟩ := at_u8 h9
  rw [hc] at h1 h2 h3 h4 h5 h6 ⊢
  have hnn : ∀ d : UInt8, d ∈ [40, 91, 46, 94, 36, 92] → d ≠ c := by
   intro d hd e
   subst e
   simp only [List.mem_cons, List.not_mem_nil, or_false] at hd
   rcases hd with rfl | rfl | rfl | rfl | rfl | rfl
   ·exact h1 (by decide)
   ·exact h2 (by decide)
   ·exact h3 (by decide)
   ·exact h4 (by decide)
   ·exact h5 (by decide)
   ·exact h6 (by decide)
  by_cases ha : c.toNat < 32 ∨ 126 < c.toNat
  ·rw [if_neg (by simp only [selfA, Bool.and_eq_true, decide_eq_true_eq]; omega)]
   exact atomz_odd b l i c hc (fun d hd e => hnn d hd e.symm.symm) ha
  ·by_cases hs : c ∈ spec
   ·rw [if_neg (by simp only [selfA, spec_nat hs]; simp)]
    exact atomz_sign b l i c hc hnn (by omega) (by omega) hs
   ·have hself : selfA c.toNat = true := by
     unfold selfA
     rw [decide_eq_true (show 32 ≤ c.toNat by omega), decide_eq_true (show c.toNat ≤ 126 by omega)]
     cases hh : (spec.map UInt8.toNat).contains c.toNat with
     | true => exact absurd (spec_u8 hh) hs
     | false => rfl
    rw [if_pos hself]
    exact atomz_plain b l i c hc hnn hs (by omega) (by omega)
 ·rw [h9, if_neg (by decide)]
  exact atomz_none b l i h9
end Go.Proofs.YtmpbjaodgajnfaaGreatDoor

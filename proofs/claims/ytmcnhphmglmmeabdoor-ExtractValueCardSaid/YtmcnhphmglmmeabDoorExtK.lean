/-
  ExtractValue's walk, over what Item hands out.
-/
import Derived.Test.YtmcnhphmglmmeabDoorExtI2
namespace Go.Proofs.YtmcnhphmglmmeabDoor
open Go.RowKit

/-- The nine names at the block nb. -/
def N9 (W : World) (nb : Nat) : Prop := nb < W.heap.size ∧ ∀ j, j < 9 → ∃ n : List UInt8, n.length ≤ 100 ∧ W.cell? ⟨nb, j, none⟩ = some (.string ⟨n.toArray⟩)
/-- The event at the block xb. -/
structure XS (w : World) (g xb : Nat) (x : Ev) (W : World) : Prop where
  cells : ∃ (a b : Int) (la : Option Addr) (ln lc : Nat) (fa : Option Addr) (fc : Nat),
    (∀ i u, (#[Value.int .i64 x.host, .int .i64 x.file, .int .i64 a, .int .i64 b, .slice la ln lc, .int .i64 x.time, .int .i64 x.weight, .string ⟨x.trace.toArray⟩, .string ⟨x.stream.toArray⟩, .slice fa x.flds.length fc] : Array Value)[i]? = some u → W.cell? ⟨xb, i, none⟩ = some u) ∧ FI W (.slice fa x.flds.length fc) x.flds ∧ ∀ k, (Value.slice fa x.flds.length fc).ownBlock = some k → g < k
  xg : g < xb
  wg : w.heap.size ≤ g
  xlt : xb < W.heap.size
  codes : CodesAt W g
  below : Below w.heap.size w W
  pow : Pow W
theorem XS.later {w W W' : World} {g xb : Nat} {x : Ev} (h : XS w g xb x W) (hb : Below W.heap.size W W') : XS w g xb x W' := by
  obtain ⟨a, b, la, ln, lc, fa, fc, hc, hf, hk⟩ := h.cells
  exact ⟨⟨a, b, la, ln, lc, fa, fc, fun i u hu => (hb.cell (p := ⟨xb, i, none⟩) h.xlt).trans (hc i u hu), hf.later hb, hk⟩, h.xg, h.wg, Nat.lt_of_lt_of_le h.xlt hb.size, h.codes.below hb, h.below.trans (hb.mono h.below.size), h.pow.below hb⟩
theorem FI.apart {W W' : World} {g n : Nat} {fa : Option Addr} {fc : Nat} {d : List Fd} (h : FI W (.slice fa d.length fc) d) (hk : ∀ k, (Value.slice fa n fc).ownBlock = some k → g < k) (ha : Apart g W W') : FI W' (.slice fa d.length fc) d := by
  obtain ⟨a, c, e, h⟩ := h
  injection e with e1 e2 e3
  subst e1
  refine ⟨fa, fc, rfl, fun h0 => ?_⟩
  obtain ⟨b, off, rfl, hg, hf⟩ := h h0
  have hn : g < b := hk b rfl
  exact ⟨b, off, rfl, Nat.lt_of_lt_of_le hg ha.1.size, fun i hi => ⟨(ha.cell (p := ⟨b, off + i * 2, none⟩) (Nat.ne_of_gt hn) hg).trans (hf i hi).1, (ha.cell (p := ⟨b, off + i * 2 + 1, none⟩) (Nat.ne_of_gt hn) hg).trans (hf i hi).2⟩⟩
theorem XS.go {w W W' : World} {g xb : Nat} {x : Ev} (h : XS w g xb x W) (hp : Pow w) (ha : Apart g W W') (hc' : CodesAt W' g) : XS w g xb x W' := by
  obtain ⟨a, b, la, ln, lc, fa, fc, hc, hf, hk⟩ := h.cells
  have hb := Apart.below h.below ha h.wg
  exact ⟨⟨a, b, la, ln, lc, fa, fc, fun i u hu => (ha.cell (p := ⟨xb, i, none⟩) (Nat.ne_of_gt h.xg) h.xlt).trans (hc i u hu), hf.apart hk ha, hk⟩, h.xg, h.wg, Nat.lt_of_lt_of_le h.xlt ha.1.size, hc', hb, hp.below hb⟩
theorem N9.later {W W' : World} {nb : Nat} (h : N9 W nb) (hb : Below W.heap.size W W') : N9 W' nb :=
  ⟨Nat.lt_of_lt_of_le h.1 hb.size, fun j hj => by
    obtain ⟨n, h1, h2⟩ := h.2 j hj
    exact ⟨n, h1, (hb.cell (p := ⟨nb, j, none⟩) h.1).trans h2⟩⟩

theorem N9.start {W : World} (n0 n1 : List UInt8) (h0 : n0.length ≤ 100) (h1 : n1.length ≤ 100) : N9 (W.alloc (.cells #[.string ⟨n0.toArray⟩, .string ⟨n1.toArray⟩, .string ⟨#[64, 104, 111, 115, 116]⟩, .string ⟨#[64, 102, 105, 108, 101]⟩, .string ⟨#[64, 116, 105, 109, 101]⟩, .string ⟨#[64, 119, 101, 105, 103, 104, 116]⟩, .string ⟨#[64, 116, 114, 97, 99, 101]⟩, .string ⟨#[64, 115, 116, 114, 101, 97, 109]⟩, .string ⟨#[64, 111, 116, 104, 101, 114]⟩] 9)) W.heap.size := by
  refine ⟨by simp, fun j hj => ?_⟩
  match j, hj with
  | 0, _ => exact ⟨n0, h0, by simp [go_sem]⟩
  | 1, _ => exact ⟨n1, h1, by simp [go_sem]⟩
  | 2, _ => exact ⟨[64, 104, 111, 115, 116], by decide, by simp [go_sem]⟩
  | 3, _ => exact ⟨[64, 102, 105, 108, 101], by decide, by simp [go_sem]⟩
  | 4, _ => exact ⟨[64, 116, 105, 109, 101], by decide, by simp [go_sem]⟩
  | 5, _ => exact ⟨[64, 119, 101, 105, 103, 104, 116], by decide, by simp [go_sem]⟩
  | 6, _ => exact ⟨[64, 116, 114, 97, 99, 101], by decide, by simp [go_sem]⟩
  | 7, _ => exact ⟨[64, 115, 116, 114, 101, 97, 109], by decide, by simp [go_sem]⟩
  | 8, _ => exact ⟨[64, 111, 116, 104, 101, 114], by decide, by simp [go_sem]⟩
/-- The three texts at the block tb. -/
def T3 (W : World) (tb : Nat) : Prop := tb < W.heap.size ∧ ∀ j, j < 3 → ∃ n : List UInt8, n.length ≤ 100 ∧ W.cell? ⟨tb, j, none⟩ = some (.string ⟨n.toArray⟩)
theorem T3.later {W W' : World} {nb : Nat} (h : T3 W nb) (hb : Below W.heap.size W W') : T3 W' nb :=
  ⟨Nat.lt_of_lt_of_le h.1 hb.size, fun j hj => by
    obtain ⟨n, h1, h2⟩ := h.2 j hj
    exact ⟨n, h1, (hb.cell (p := ⟨nb, j, none⟩) h.1).trans h2⟩⟩
theorem T3.start {W : World} (n0 n1 n2 : List UInt8) (h0 : n0.length ≤ 100) (h1 : n1.length ≤ 100) (h2 : n2.length ≤ 100) : T3 (W.alloc (.cells #[.string ⟨n0.toArray⟩, .string ⟨n1.toArray⟩, .string ⟨n2.toArray⟩] 9)) W.heap.size := by
  refine ⟨by simp, fun j hj => ?_⟩
  match j, hj with
  | 0, _ => exact ⟨n0, h0, by simp [go_sem]⟩
  | 1, _ => exact ⟨n1, h1, by simp [go_sem]⟩
  | 2, _ => exact ⟨n2, h2, by simp [go_sem]⟩

theorem field_ev (r : ByteArray) (tz : Int) (la : Option Addr) (n lc tm wt : Nat) (tr st : List UInt8) (fa : Option Addr) (fn fc : Nat) (w : World) :
    (Instr.field 31 (.agg #[.string r, .int .i64 1, .int .i64 5, .int .i64 0, .int .i64 tz, .slice la n lc, .int .i64 tm, .int .i64 wt, .string ⟨tr.toArray⟩, .string ⟨st.toArray⟩, .slice fa fn fc]) 1).run Tryd.prog w =
      .ok (.agg #[.int .i64 1, .int .i64 5, .int .i64 0, .int .i64 tz, .slice la n lc, .int .i64 tm, .int .i64 wt, .string ⟨tr.toArray⟩, .string ⟨st.toArray⟩, .slice fa fn fc]) w := by
  kernel_rfl

set_option maxRecDepth 100000 in
set_option maxHeartbeats 4000000 in
theorem extract_any (hit : ∀ g w, CodesAt w g → Calls Tryd.prog 6 #[.pointer (some ⟨g, 0, none⟩), .int .i64 1, .int .i64 5, .int .i64 0] w (ItemQ g w))
    (vc : Value) (cs nm tx : List UInt8) (w : World) (hp : Pow w) (hc : BS w vc cs) (hn : nm.length ≤ 9223372036854775807) (ht : tx.length ≤ 9223372036854775807) :
    Calls Tryd.prog 3 #[vc, .string ⟨nm.toArray⟩, .string ⟨tx.toArray⟩] w fun e w' => e = .returned (.bool true) ∧ Below w.heap.size w w' := by
  have HA := Lib.hid (awake_any w)
  have HP := Lib.hid hp
  have HNW := Lib.hid fun w1 hb1 => new_any vc cs 100 w1 (hc.below hb1) (by omega)
  have HIT := Lib.hid hit
  clear hp hc hit
  by_cases h1 : nm.length ≤ 100
  · have t1 : decide ((100 : Int) < (nm.length : Int)) = false := decide_eq_false (by omega)
    by_cases h2 : tx.length ≤ 100
    · have t2 : decide ((100 : Int) < (tx.length : Int)) = false := decide_eq_false (by omega)
      go_enter Tryd.func3, Tryd.ntmps3
      go_wp2_with (go_at_call 4; refine HA.out.mono ?_; rintro e w1 ⟨rfl, hb1⟩)
      refine (HNW.out w1 hb1).mono ?_
      rintro e w2 ⟨rfl, hca, hb2⟩
      have hg1 := hb1.size
      obtain ⟨g, hg⟩ : ∃ g, g = w1.heap.size := ⟨_, rfl⟩
      have HB2 := Lib.hid (hb1.trans (hb2.mono hb1.size))
      rw [← hg] at hg1 hca ⊢
      have HIT2 := Lib.hid (HIT.out g w2 hca)
      clear hg hb2 hca HNW HA HIT
      go_wp2_with fail
      refine HIT2.out.mono ?_
      rintro e w3 ⟨r, tz, la, n, lc, tm, wt, tr, st, fa, fc, d, rfl, hfi, hfk, hok, hca, hap⟩
      have HX0 := Lib.hid (show XS w g w3.heap.size ⟨1, 5, tm, wt, tr, st, d⟩ (w3.alloc (.cells #[.int .i64 1, .int .i64 5, .int .i64 0, .int .i64 tz, .slice la n lc, .int .i64 tm, .int .i64 wt, .string ⟨tr.toArray⟩, .string ⟨st.toArray⟩, .slice fa d.length fc] 29)) from
        have hb3 : Below w.heap.size w w3 := Apart.below HB2.out hap hg1
        have hb4 := hb3.alloc hb3.size (.cells #[.int .i64 1, .int .i64 5, .int .i64 0, .int .i64 tz, .slice la n lc, .int .i64 tm, .int .i64 wt, .string ⟨tr.toArray⟩, .string ⟨st.toArray⟩, .slice fa d.length fc] 29)
        ⟨⟨0, tz, la, n, lc, fa, fc, fun i u hu => cell_in (Below.refl _ _) i hu, hfi.later ((Below.refl _ _).alloc (Nat.le_refl _) _), hfk⟩, hca.1, hg1, by simp, hca.al _, hb4, HP.out.below hb4⟩)
      have HOK := Lib.hid hok
      have hfe := field_ev r tz la n lc tm wt tr st fa d.length fc
      clear hfi hok hca hap HIT2 HB2
      go_wp2_with fail
      refine (dname_any g _ HX0.out.codes).mono ?_
      rintro e w4 ⟨nx, hnx, rfl, hca, hap⟩
      have HX4 := Lib.hid (HX0.out.go HP.out hap hca)
      have HN4 := Lib.hid (N9.start (W := w4) nm nx h1 (by omega))
      clear hca hap HX0 hfe
      go_wp2_with fail
      obtain ⟨xb, hxb⟩ : ∃ xb, xb = w3.heap.size := ⟨_, rfl⟩
      obtain ⟨X, hX⟩ : ∃ X : Ev, X = ⟨1, 5, tm, wt, tr, st, d⟩ := ⟨_, rfl⟩
      rw [← hxb, ← hX] at HX4
      rw [← hX] at HOK
      rw [← hxb]
      obtain ⟨nb, hnb⟩ : ∃ nb, nb = w4.heap.size := ⟨_, rfl⟩
      rw [← hnb] at HN4 ⊢
      have HLL := Lib.hid (HX4.out.later ((Below.refl _ w4).alloc (Nat.le_refl _) (.cells #[.string ⟨nm.toArray⟩, .string ⟨nx.toArray⟩, .string ⟨#[64, 104, 111, 115, 116]⟩, .string ⟨#[64, 102, 105, 108, 101]⟩, .string ⟨#[64, 116, 105, 109, 101]⟩, .string ⟨#[64, 119, 101, 105, 103, 104, 116]⟩, .string ⟨#[64, 116, 114, 97, 99, 101]⟩, .string ⟨#[64, 115, 116, 114, 101, 97, 109]⟩, .string ⟨#[64, 111, 116, 104, 101, 114]⟩] 9)))
      clear hxb hX hnb HX4
      go_loopw [55] (fun i wr => ∃ k : Nat, k ≤ 9 ∧ i = .int .i64 k ∧ XS w g xb X wr ∧ N9 wr nb) (fun i _ => 9 - (intOf i).toNat)
      case atStart => exact ⟨0, by omega, rfl, HLL.out, HN4.out⟩
      case round =>
        obtain ⟨k, hk, rfl, hX, hN⟩ := hrel
        by_cases hlt : k < 9
        · obtain ⟨nn, hnl, hncell⟩ := hN.2 k hlt
          have i1 : (k : Int) < 9 := by omega
          have i2 : (0 : Int) ≤ (k : Int) := by omega
          obtain ⟨a, b, la, ln, lc, fa, fc, hcell, hf, _⟩ := hX.cells
          have HCE := Lib.hid fun W (hb : Below wr.heap.size wr W) i u (hu : (#[Value.int .i64 X.host, .int .i64 X.file, .int .i64 a, .int .i64 b, .slice la ln lc, .int .i64 X.time, .int .i64 X.weight, .string ⟨X.trace.toArray⟩, .string ⟨X.stream.toArray⟩, .slice fa X.flds.length fc] : Array Value)[i]? = some u) => (hb.cell (p := ⟨xb, i, none⟩) hX.xlt).trans (hcell i u hu)
          have HEV := Lib.hid fun W (hb : Below wr.heap.size wr W) => (show EvV W (.agg #[.int .i64 X.host, .int .i64 X.file, .int .i64 a, .int .i64 b, .slice la ln lc, .int .i64 X.time, .int .i64 X.weight, .string ⟨X.trace.toArray⟩, .string ⟨X.stream.toArray⟩, .slice fa X.flds.length fc]) X from ⟨a, b, la, ln, lc, fa, fc, rfl, hf.later hb⟩)
          have HPW := Lib.hid fun W (hb : Below wr.heap.size wr W) => hX.pow.below hb
          have HXX := Lib.hid hX
          have HNN := Lib.hid hN
          obtain ⟨R, hR⟩ : ∃ R, valL X nn = R := ⟨_, rfl⟩
          have HV1 := Lib.hid fun W hb => value_any _ X nn W (HPW.out W hb) (HEV.out W hb) HOK.out (by omega)
          have HV2 := Lib.hid fun W hb => rvalue_any _ X nn W (HEV.out W hb) HOK.out
          obtain ⟨N, M, hNM⟩ : ∃ (N : Int) (M : Bool), ∀ W e w', numP W R e w' → e = .returned (.tuple #[.int .i64 N, .bool M]) ∧ Below W.heap.size W w' := ⟨_, _, fun _ _ _ h => h⟩
          have HV3 := Lib.hid fun W hb => (pnumber_any _ X nn W (HPW.out W hb) (HEV.out W hb) HOK.out (by omega)).mono fun e w' h => hNM W e w' (hR ▸ h)
          have HV4 := Lib.hid fun W hb => (rnum_any _ X nn W (HEV.out W hb) HOK.out).mono fun e w' h => hNM W e w' (hR ▸ h)
          obtain ⟨S, hS⟩ : ∃ S, R.getD [] = S := ⟨_, rfl⟩
          obtain ⟨B, hB⟩ : ∃ B, R.isSome = B := ⟨_, rfl⟩
          unfold GetPost at HV1 HV2
          simp only [hR, hS, hB] at HV1 HV2
          clear hNM hR hS hB hN hX hf hcell HEV HPW HLL
          have x0 := HCE.out wr (Below.refl _ _) 0 _ rfl
          have x1 := HCE.out wr (Below.refl _ _) 1 _ rfl
          have x2 := HCE.out wr (Below.refl _ _) 2 _ rfl
          have x3 := HCE.out wr (Below.refl _ _) 3 _ rfl
          have x4 := HCE.out wr (Below.refl _ _) 4 _ rfl
          have x5 := HCE.out wr (Below.refl _ _) 5 _ rfl
          have x6 := HCE.out wr (Below.refl _ _) 6 _ rfl
          have x7 := HCE.out wr (Below.refl _ _) 7 _ rfl
          have x8 := HCE.out wr (Below.refl _ _) 8 _ rfl
          have x9 := HCE.out wr (Below.refl _ _) 9 _ rfl
          go_wp2_with fail
          refine (HV1.out wr (Below.refl _ _)).mono ?_
          rintro e q1 ⟨rfl, hb1⟩
          have y0 := HCE.out q1 hb1 0 _ rfl
          have y1 := HCE.out q1 hb1 1 _ rfl
          have y2 := HCE.out q1 hb1 2 _ rfl
          have y3 := HCE.out q1 hb1 3 _ rfl
          have y4 := HCE.out q1 hb1 4 _ rfl
          have y5 := HCE.out q1 hb1 5 _ rfl
          have y6 := HCE.out q1 hb1 6 _ rfl
          have y7 := HCE.out q1 hb1 7 _ rfl
          have y8 := HCE.out q1 hb1 8 _ rfl
          have y9 := HCE.out q1 hb1 9 _ rfl
          go_wp2_with fail
          refine (HV2.out q1 hb1).mono ?_
          rintro e q2 ⟨rfl, hb2'⟩
          have hb2 := hb1.trans (hb2'.mono hb1.size)
          have z0 := HCE.out q2 hb2 0 _ rfl
          have z1 := HCE.out q2 hb2 1 _ rfl
          have z2 := HCE.out q2 hb2 2 _ rfl
          have z3 := HCE.out q2 hb2 3 _ rfl
          have z4 := HCE.out q2 hb2 4 _ rfl
          have z5 := HCE.out q2 hb2 5 _ rfl
          have z6 := HCE.out q2 hb2 6 _ rfl
          have z7 := HCE.out q2 hb2 7 _ rfl
          have z8 := HCE.out q2 hb2 8 _ rfl
          have z9 := HCE.out q2 hb2 9 _ rfl
          go_wp2_with fail
          refine (HV3.out q2 hb2).mono ?_
          rintro e q3 ⟨rfl, hb3'⟩
          have hb3 := hb2.trans (hb3'.mono hb2.size)
          have v0 := HCE.out q3 hb3 0 _ rfl
          have v1 := HCE.out q3 hb3 1 _ rfl
          have v2 := HCE.out q3 hb3 2 _ rfl
          have v3 := HCE.out q3 hb3 3 _ rfl
          have v4 := HCE.out q3 hb3 4 _ rfl
          have v5 := HCE.out q3 hb3 5 _ rfl
          have v6 := HCE.out q3 hb3 6 _ rfl
          have v7 := HCE.out q3 hb3 7 _ rfl
          have v8 := HCE.out q3 hb3 8 _ rfl
          have v9 := HCE.out q3 hb3 9 _ rfl
          go_wp2_with fail
          refine (HV4.out q3 hb3).mono ?_
          rintro e q4 ⟨rfl, hb4'⟩
          have hb4 := hb3.trans (hb4'.mono hb3.size)
          have HXF := Lib.hid (HXX.out.later hb4)
          have HNF := Lib.hid (HNN.out.later hb4)
          go_wp2_with fail
          go_roundw
          case rel => exact ⟨k + 1, by omega, by go_num, HXF.out, HNF.out⟩
          case measure => simp [intOf]; omega
        · obtain rfl : k = 9 := by omega
          have HXX := Lib.hid hX
          clear hX hN HLL
          go_wp2_with fail
          refine (dvalue_any g wr HXX.out.codes).mono ?_
          rintro e q1 ⟨v1, hv1, rfl, hca, hap⟩
          have HX1 := Lib.hid (HXX.out.go HP.out hap hca)
          clear hca hap
          go_wp2_with fail
          refine (dvalue_any g q1 HX1.out.codes).mono ?_
          rintro e q2 ⟨v2, hv2, rfl, hca, hap⟩
          have HX2 := Lib.hid (HX1.out.go HP.out hap hca)
          have HT := Lib.hid (T3.start (W := q2) tx v1 v2 h2 (by omega) (by omega))
          have HBT := Lib.hid (HX2.out.below.alloc HX2.out.below.size (.cells #[.string ⟨tx.toArray⟩, .string ⟨v1.toArray⟩, .string ⟨v2.toArray⟩] 9))
          clear hca hap HX1 HXX
          go_wp2_with fail
          obtain ⟨tb, htb⟩ : ∃ tb, tb = q2.heap.size := ⟨_, rfl⟩
          rw [← htb] at HT ⊢
          clear htb
          go_loopw [109] (fun i wr => ∃ k : Nat, k ≤ 3 ∧ i = .int .i64 k ∧ T3 wr tb ∧ Below w.heap.size w wr) (fun i _ => 3 - (intOf i).toNat)
          case atStart => exact ⟨0, by omega, rfl, HT.out, HBT.out⟩
          case round =>
            obtain ⟨k, hk, rfl, hT, hb⟩ := hrel
            by_cases hlt : k < 3
            · obtain ⟨nn, hnl, hncell⟩ := hT.2 k hlt
              have i1 : (k : Int) < 3 := by omega
              have i2 : (0 : Int) ≤ (k : Int) := by omega
              have HTT := Lib.hid hT
              have H1 := Lib.hid (parse_any nn wr)
              have H2 := Lib.hid fun W => rparse_any nn W (by omega)
              obtain ⟨N, hN2⟩ : ∃ N : Int, Asc.numN nn = N := ⟨_, rfl⟩
              obtain ⟨M, hM⟩ : ∃ M : Bool, Asc.numB nn = M := ⟨_, rfl⟩
              rw [hN2, hM] at H1
              simp only [hN2, hM] at H2
              clear hT hN2 hM
              go_wp2_with fail
              refine H1.out.mono ?_
              rintro e p1 ⟨rfl, hb1⟩
              go_wp2_with fail
              refine (H2.out p1).mono ?_
              rintro e p2 ⟨rfl, rfl⟩
              have HTF := Lib.hid (HTT.out.later hb1)
              go_wp2_with fail
              go_roundw
              case rel => exact ⟨k + 1, by omega, by go_num, HTF.out, hb.trans (hb1.mono hb.size)⟩
              case measure => simp [intOf]; omega
            · obtain rfl : k = 3 := by omega
              go_wp2_with fail
              go_ret
              exact ⟨rfl, hb⟩
    · have t2 : decide ((100 : Int) < (tx.length : Int)) = true := decide_eq_true (by omega)
      go_enter Tryd.func3, Tryd.ntmps3
      go_wp2_with (go_at_call 4; refine HA.out.mono ?_; rintro e w1 ⟨rfl, hb1⟩)
      go_ret
      exact ⟨rfl, hb1⟩
  · have t1 : decide ((100 : Int) < (nm.length : Int)) = true := decide_eq_true (by omega)
    go_enter Tryd.func3, Tryd.ntmps3
    go_wp2_with (go_at_call 4; refine HA.out.mono ?_; rintro e w1 ⟨rfl, hb1⟩)
    go_ret
    exact ⟨rfl, hb1⟩

end Go.Proofs.YtmcnhphmglmmeabDoor

/-
 Joined: EvN, EgN, Laid, LaidMat, Stay, OpenB, EgO, EgP.
-/
import Derived.Test.YtmpbjaodgajnfaaGreatDoorEhL
import Derived.BigRegion
import Derived.Test.YtmpbjaodgajnfaaGreatDoorEhW
import Derived.Test.YtmpbjaodgajnfaaGreatDoorEhX
import Derived.Lib.QuietBelow
import Derived.Test.YtmpbjaodgajnfaaGreatDoorCards
import Derived.Test.YtmpbjaodgajnfaaGreatDoorTie
import Derived.WalkKit
import Derived.ProofKit
import Derived.OpenShut
import Derived.Deep.DeepHandedRow
import Derived.Lib.LaidTab
import Derived.Stop.LaidErr
import Derived.Test.YtmpbjaodgajnfaaGreatDoorEhA
import Derived.Lib.AppendIntMem
import Derived.ChangeStays
import Derived.ChangeBears
import Derived.Below
import Derived.ChangeSlices
namespace Go.Proofs.YtmpbjaodgajnfaaGreatDoor
open Go.RowKit
set_option maxRecDepth 100000 in
set_option maxHeartbeats 2000000 in
theorem parse_12 (w : World) : Calls Tryz.prog 20 #[.string ⟨#[45, 49, 50]⟩] w fun e w' => e = .returned (.tuple #[.int .i64 (-12), .bool true]) ∧ Below w.heap.size w w' := by
 have HT : Hid (∀ w, Calls Tryz.prog 44 #[.string ⟨#[45, 49, 50]⟩, .string ⟨#[45]⟩] w fun e w' => e = .returned (.string ⟨#[49, 50]⟩) ∧ w = w') := Lib.hid (fun w => (Tryz.strings_TrimPrefix ⟨#[45, 49, 50]⟩ ⟨#[45]⟩ w).mono fun e w' ⟨h1, h2⟩ => ⟨h1, h2.symm⟩)
 obtain ⟨cap, w2, nb⟩ := conv_bytes w [49, 50]
 have hr := nb.run
 have NB := Lib.hid nb
 clear nb
 go_enter Tryz.func20, Tryz.ntmps20
 go_wp2_with (go_at_call 44; refine (HT.out _).mono ?_; rintro e w' ⟨rfl, rfl⟩)
 go_loop [5, 21] (fun t i => ∃ k : Nat, k ≤ 2 ∧ i = .int .i64 k ∧ t = .int .i64 (if k = 0 then 0 else if k = 1 then 1 else 12 : Int)) (fun _ i => 2 - (intOf i).toNat)
 case atStart => exact ⟨0, by omega, rfl, rfl⟩
 case round =>
  obtain ⟨k, hk, rfl, rfl⟩ := hrel
  obtain rfl | rfl | rfl : k = 0 ∨ k = 1 ∨ k = 2 := by omega
  ·have hcell := NB.out.cells.at 0 (by decide)
   have e0 : Asc.at_ [49, 50] 0 = 49 := rfl
   rw [e0] at hcell
   simp only [if_pos]
   go_wp2_with fail
   go_round
   case rel => exact ⟨1, by omega, by go_num, by rfl⟩
   case measure => simp [intOf]
  ·have hcell := NB.out.cells.at 1 (by decide)
   have e0 : Asc.at_ [49, 50] 1 = 50 := rfl
   rw [e0] at hcell
   simp only [if_neg (show ¬ (1 = 0) by decide), if_pos]
   go_wp2_with fail
   go_round
   case rel => exact ⟨2, by omega, by go_num, by rfl⟩
   case measure => simp [intOf]
  ·simp only [if_neg (show ¬ (2 = 0) by decide), if_neg (show ¬ (2 = 1) by decide)]
   go_wp2_with fail
   go_ret2
   exact ⟨rfl, NB.out.below⟩
set_option maxRecDepth 100000 in
theorem eawake_any (w : World) : Calls Tryz.prog 6 #[] w fun e w' => e = .returned (.bool true) ∧ Below w.heap.size w w' := by
 have HP := Lib.hid (parse_12 w)
 go_enter Tryz.func6, Tryz.ntmps6
 go_wp2_with (go_at_call 20; refine HP.out.mono ?_; rintro e w1 ⟨rfl, hb⟩)
 go_ret
 exact ⟨rfl, hb⟩
end Go.Proofs.YtmpbjaodgajnfaaGreatDoor
namespace Go.Proofs.YtmpbjaodgajnfaaGreatDoor
open Go.Sort Go.RowKit
structure Two (F : Nat → Prop) (t : NT) (W : World) (ds es : List Evd) (lv av : Value) : Prop where
 len : es.length = ds.length
 few : ds.length ≤ 24
 old : ∀ i (h : i < ds.length), DG F W ds[i]
 lrow : RW F 10 EvR W (ds.map (·.1)) lv
 arow : RW F 10 EvR W (es.map (·.1)) av
 ev : ∀ i (h : i < ds.length) (h' : i < es.length), es[i].1 = { ds[i].1 with fv := es[i].1.fv } ∧ es[i].2.1 = ds[i].2.1 ∧ RW F 2 FdR W es[i].2.2 es[i].1.fv ∧ (es[i].2.2 = [] → es[i].1.fv = .slice none 0 0) ∧ FldR t (txtL ds[i].2.1) ds[i].2.2 es[i].2.2
theorem Two.go {F F' : Nat → Prop} {t : NT} {W W' : World} {ds es : List Evd} {lv av : Value} (h : Two F t W ds es lv av) (hs : Stay F F' W W') : Two F' t W' ds es lv av :=
 ⟨h.len, h.few, fun i hi => (h.old i hi).go hs, h.lrow.go hs (fun _ _ h => h), h.arow.go hs (fun _ _ h => h), fun i h1 h2 => by
  obtain ⟨k1, k2, k3, k4, k5⟩ := h.ev i h1 h2
  exact ⟨k1, k2, k3.go hs (fun _ _ h => h), k4, k5⟩⟩
theorem Two.below {F : Nat → Prop} {t : NT} {W W' : World} {ds es : List Evd} {lv av : Value} (h : Two F t W ds es lv av) (hb : Below W.heap.size W W') : Two (fun _ => True) t W' ds es lv av :=
 h.go ⟨hb.size, fun b _ hl => ⟨trivial, hb.block b hl⟩⟩
theorem Two.evi {F : Nat → Prop} {t : NT} {W : World} {ds es : List Evd} {lv av : Value} (h : Two F t W ds es lv av) {k : Nat} (hk : k < 7) (ht : t = exT k) : ∀ i (hi : i < es.length), EvI F t (fun _ _ => True) W es[i] := fun i hi => by
 have hi' : i < ds.length := by have := h.len; omega
 have hd := h.old i hi'
 obtain ⟨k1, k2, k3, k4, k5⟩ := h.ev i hi' hi
 subst ht
 have ho := fld_out hd.st hk k5
 have htx := txt_len ds[i].2.1 hd.st.tl
 have h3 := hd.st.nl3
 have hl := hd.lmem
 refine ⟨by rw [k2, k1]; exact hl, k3, k4, by rw [k2]; omega, by rw [k2]; omega, by have := ho.few; omega, ho.srt, fun _ _ _ hf => grp_ok hf, fun _ _ _ _ _ _ _ _ => trivial⟩
theorem Two.good {F : Nat → Prop} {t : NT} {W : World} {ds es : List Evd} {lv av : Value} (h : Two F t W ds es lv av) {k : Nat} (hk : k < 7) (ht : t = exT k) (i : Nat) (hi : i < es.length) (hi' : i < ds.length) : EvGood es[i] ∧ ds[i].2.2.length ≤ es[i].2.2.length := by
 have hd := h.old i hi'
 obtain ⟨k1, k2, k3, k4, k5⟩ := h.ev i hi' hi
 subst ht
 have ho := fld_out hd.st hk k5
 have hg := hd.st.good
 refine ⟨⟨by rw [k1]; exact hg.host, by rw [k1]; exact hg.file, by rw [k1]; exact hg.at_, by rw [k1]; exact hg.time, by rw [k1]; exact hg.weight, ?_, by rw [k2]; exact hg.nl, by rw [k1]; exact hg.trace, by rw [k1]; exact hg.stream, ho.srt, by have := ho.few; omega, ho.names⟩, ho.more⟩
 rw [k2, k1]
 exact hg.lines
theorem wpq_load_evm {ops : Array Oper} {rest : List Oper} {o : Oper} {a : Act} {w : World} {Q : Act → Prop} (hgd : ∀ y, Region.wanted o y = true) (x : Operand) (ho : o.op = .load 44 x) (g q : Nat) (hx : a.eval x = .pointer (some ⟨g, q, none⟩)) (cs : List Value) (hl : cs.length = 10) (hg : w.rangeAt g q cs)
  (h : wpQuiet Tryz.prog ops (fun w' => ∃ p : Regrown, w' = grow (redrawn w p.d) p.os) Q rest (a.put o.dst (.agg cs.toArray))) : wpQuiet Tryz.prog ops (fun w' => ∃ p : Regrown, w' = grow (redrawn w p.d) p.os) Q (o :: rest) a := by
 obtain ⟨fs, hd⟩ := undEv2
 refine wpQuiet_step (fun K hK => ?_)
 rw [if_pos (hgd _)]
 refine ⟨_, ?_, hK _ h⟩
 rintro w' ⟨⟨d, os⟩, rfl⟩
 unfold Oper.quietAt execOp
 simp only [ho, hx, Instr.loadAt, Instr.sureAddr, Sem.run_bind, Sem.run_pure, Result.andThen_ok, run_loadVar_mid (P := Tryz.prog) _ g q 44 cs _ (fun j v hv => cell_regrown (hg j v hv) d os) hd rfl (by rw [hl]; exact (zero_of_info infoEv).2)]
 exact ⟨rfl, rfl⟩
set_option maxHeartbeats 16000000 in
set_option maxRecDepth 1000000 in
theorem alone_any (bs : List UInt8) (v0 : Value) (w : World) (hk : Kinds w) (hbs : BS w v0 bs) :
  Calls Tryz.prog 4 #[v0] w fun e w' => e = .returned (.bool true) ∧ Below w.heap.size w w' := by
 have HA := Lib.hid (eawake_any w)
 have HK := Lib.hid hk
 have HBS := Lib.hid hbs
 clear hk hbs
 go_enter Tryz.func4, Tryz.ntmps4
 go_wp2_with fail
 refine HA.out.mono ?_
 rintro e w1 ⟨rfl, hb1⟩
 have HB1 := Lib.hid hb1
 have HNW := Lib.hid (new_any v0 bs 300 w1 (HBS.out.below hb1) (by decide))
 clear hb1 HA
 go_wp2_with fail
 refine HNW.out.mono ?_
 rintro e w2 ⟨rfl, hc2, hb2⟩
 have HB2 : Hid (Below w.heap.size w w2) := Lib.hid (HB1.out.trans (hb2.mono HB1.out.size))
 have hg2 : w1.heap.size < w2.heap.size := hc2.1
 have hwg : w.heap.size ≤ w1.heap.size := HB1.out.size
 have HEV := Lib.hid (events_any w1.heap.size w2 hc2)
 clear hb2 hc2 HNW
 go_wp2_with fail
 refine HEV.out.mono ?_
 rintro e w3 ⟨lv, ds, rfl, hev, hdl⟩
 have HE := Lib.hid hev
 have HSR := Lib.hid (source_any w1.heap.size w3 hev.codes)
 clear hev HEV
 go_wp2_with fail
 refine HSR.out.mono ?_
 rintro e w4 ⟨k, hk7, rfl, hca, hap⟩
 have HE4 := Lib.hid (HE.out.go hg2 hap hca)
 have HB4 : Hid (Below w.heap.size w w4) := Lib.hid (HB2.out.trans (HE4.out.apart.1.mono hwg))
 clear hca hap HSR HE
 have HAP := Lib.hid (apply_any ins_law (exS k) (exT k) ds lv (F := fun b => w2.heap.size ≤ b) w4 (HK.out.below HB4.out) (ex_par k hk7) (ex_ck k hk7) (ex_cost k hk7) (HE4.out.row.rw fun b hb => hb) (fun i hi => (HE4.out.mem _ (List.getElem_mem hi)).evi _) (by omega))
 go_wp2_with fail
 refine HAP.out.mono ?_
 rintro e w5 ⟨xs, av, rfl, hor5, hxl, hxo, hb5⟩
 obtain ⟨es, hel, hem, heo⟩ := app_out hxl hxo
 subst hem
 have HT5 : Hid (Two (fun b => w2.heap.size ≤ b ∨ w4.heap.size ≤ b) (exT k) w5 ds es lv av) := Lib.hid ⟨hel, hdl, fun i hi => (HE4.out.mem _ (List.getElem_mem hi)).go ⟨hb5.size, fun b hb hl => ⟨.inl hb, hb5.block b hl⟩⟩, (HE4.out.row.rw (F := fun b => w2.heap.size ≤ b) fun b hb => hb).go ⟨hb5.size, fun b hb hl => ⟨.inl hb, hb5.block b hl⟩⟩ (fun _ _ h => h), hor5.rw fun b hb => .inr hb, heo⟩
 have HB5 : Hid (Below w.heap.size w w5) := Lib.hid (HB4.out.trans (hb5.mono HB4.out.size))
 clear hor5 hxl hxo hb5 heo HE4 HAP
 have HAP := Lib.hid (apply_any ins_law (exS k) (exT k) es av w5 (HK.out.below HB5.out) (ex_par k hk7) (ex_ck k hk7) (ex_cost k hk7) HT5.out.arow (HT5.out.evi hk7 rfl) (by omega))
 go_wp2_with fail
 refine HAP.out.mono ?_
 rintro e w6 ⟨ys, bv, rfl, hor6, hyl, hyo, hb6⟩
 obtain ⟨fs6, hfl, hfm, hfo⟩ := app_out hyl hyo
 subst hfm
 have HT6 := Lib.hid (HT5.out.below hb6)
 have HB6 : Hid (Below w.heap.size w w6) := Lib.hid (HB5.out.trans (hb6.mono HB5.out.size))
 have hsame : Calls Tryz.prog 13 #[av, bv] w6 fun en w' => en = .returned (.bool true) ∧ Below w6.heap.size w6 w' := by
  refine sameevs_yes (F := fun _ => True) (es.map (·.1)) (fs6.map (·.1)) (es.map (·.2)) av bv w6 HT6.out.arow (hor6.rw fun _ _ => trivial) (by simp) (by simp [hfl]) ?_
  intro i h1 h2 h3
  simp only [List.getElem_map]
  rw [List.length_map] at h1 h2
  obtain ⟨a1, a2, a3, a4, a5⟩ := HT6.out.ev i (by omega) h1
  obtain ⟨b1, b2, b3, b4, b5⟩ := hfo i (by omega) h2
  have hd := HT6.out.old i (by omega)
  have hf : fs6[i].2.2 = es[i].2.2 := by
   rw [a2] at b5
   exact fld_twice hd.st.good.srt (by have := hd.st.nf4; have := (ex_ns k hk7).1; omega) a5 b5
  have hl := hd.lmem
  refine ⟨by rw [b1], by rw [b1], by rw [b1], by rw [b1], by rw [b1], by rw [b1], by rw [b1], by rw [b1], ?_, ?_, a3, ?_⟩
  ·rw [a2, a1]; exact hl
  ·rw [b1, a2, a1]; exact hl
  ·rw [← hf]
   exact b3.go ⟨Nat.le_refl _, fun b _ _ => ⟨trivial, rfl⟩⟩ (fun _ _ h => h)
 have HS := Lib.hid hsame
 clear hsame hor6 hyl hyo hfo hfl hb6 HT5 HAP
 obtain ⟨la, lc, hlv, _⟩ := HT6.out.lrow
 obtain ⟨aa, ac, hav, _⟩ := HT6.out.arow
 obtain ⟨n, hn⟩ : ∃ n, ds.length = n := ⟨_, rfl⟩
 rw [List.length_map] at hlv hav
 rw [HT6.out.len] at hav
 rw [hn] at hlv hav hdl
 have HN := Lib.hid hn
 subst hlv hav
 clear hn
 go_wp2_with fail
 refine HS.out.mono ?_
 rintro e w7 ⟨rfl, hb7⟩
 have HT7 := Lib.hid (HT6.out.below hb7)
 have HB7 : Hid (Below w.heap.size w w7) := Lib.hid (HB6.out.trans (hb7.mono HB6.out.size))
 clear hb7 HT6 HS
 go_wp2_with fail
 go_loopw [10] (fun i wr => ∃ j : Nat, i = .int .i64 (j : Int) ∧ j ≤ n ∧ Hid (Below w7.heap.size w7 wr)) (fun i _ => n - (intOf i).toNat)
 case atStart => exact ⟨0, rfl, Nat.zero_le _, Lib.hid (Below.refl _ _)⟩
 case round =>
  obtain ⟨j, rfl, hj, HW⟩ := hrel
  by_cases hlt : j < n
  ·have i1 : (j : Int) < (n : Int) := by omega
   have i2 : (0 : Int) ≤ (j : Int) := by omega
   have HTR := Lib.hid (HT7.out.below HW.out)
   have hd1 : j < ds.length := by rw [HN.out]; exact hlt
   have he1 : j < es.length := by rw [HT7.out.len, HN.out]; exact hlt
   obtain ⟨hgood, hmore⟩ := HTR.out.good hk7 rfl j he1 hd1
   obtain ⟨k1, k2, k3, _, _⟩ := HTR.out.ev j hd1 he1
   have hdg := HTR.out.old j hd1
   have hl3 := hdg.lmem
   have hf3 := hdg.fmem
   obtain ⟨a1, c1, ea1, _, hca⟩ := HTR.out.arow
   obtain ⟨a2, c2, ea2, _, hcl⟩ := HTR.out.lrow
   injection ea1 with q1 q2 q3
   subst q1 q3
   injection ea2 with q4 q5 q6
   subst q4 q6
   obtain ⟨ga, oa, haa, hga, _, hce⟩ := hca (by rw [List.length_map]; omega)
   obtain ⟨gl, ol, hla, hgl, _, hcd⟩ := hcl (by rw [List.length_map]; omega)
   subst haa hla
   obtain ⟨us, hul, hcu, hus⟩ := hce j (by rw [List.length_map]; exact he1)
   obtain ⟨vs, hvl, hcv, hvs⟩ := hcd j (by rw [List.length_map]; exact hd1)
   rw [List.getElem_map] at hus hvs
   unfold EvR at hus hvs
   subst hus hvs
   obtain ⟨p, hp⟩ : ∃ p, es[j] = p := ⟨_, rfl⟩
   obtain ⟨d, hd⟩ : ∃ d, ds[j] = d := ⟨_, rfl⟩
   simp only [hp, hd] at hgood hmore k1 k2 k3 hl3 hf3 hcu hcv
   clear hdg hce hcd hp hd q2 q5
   obtain ⟨⟨x0, x1, x2, x3, lv, x5, x6, x7, x8, fv⟩, ls, fs⟩ := d
   obtain ⟨⟨y0, y1, y2, y3, lv', y5, y6, y7, y8, fv'⟩, ls', fs'⟩ := p
   simp only at k1 k2 k3 hl3 hf3 hmore
   injection k1 with z0 z1 z2 z3 z4 z5 z6 z7 z8
   subst z0 z1 z2 z3 z4 z5 z6 z7 z8 k2
   obtain ⟨p4, c4, e4, _⟩ := id hl3
   obtain ⟨p9, c9, e9, _⟩ := id hf3
   obtain ⟨r9, d9, e9', _⟩ := id k3
   subst e4 e9 e9'
   have HCK0 := Lib.hid (fun (W : World) (hb : Below wr.heap.size wr W) => check_yes (F := fun _ => True) ⟨y0, y1, y2, y3, .slice p4 ls'.length c4, y5, y6, y7, y8, .slice r9 fs'.length d9⟩ ls' fs' W hgood (hl3.go ⟨hb.size, fun b _ hl => ⟨trivial, hb.block b hl⟩⟩ (fun _ _ h => h)) (k3.go ⟨hb.size, fun b _ hl => ⟨trivial, hb.block b hl⟩⟩ (fun _ _ h => h)))
   have HSM0 := Lib.hid (fun (W : World) (hb : Below wr.heap.size wr W) => sameev_yes (F := fun _ => True) ⟨y0, y1, y2, y3, .slice p4 ls'.length c4, y5, y6, y7, y8, .slice p9 fs.length c9⟩ ⟨y0, y1, y2, y3, .slice p4 ls'.length c4, y5, y6, y7, y8, .slice p9 fs.length c9⟩ ls' fs W ⟨rfl, rfl, rfl, rfl, rfl, rfl, rfl, rfl, hl3.go ⟨hb.size, fun b _ hl => ⟨trivial, hb.block b hl⟩⟩ (fun _ _ h => h), hl3.go ⟨hb.size, fun b _ hl => ⟨trivial, hb.block b hl⟩⟩ (fun _ _ h => h), hf3.go ⟨hb.size, fun b _ hl => ⟨trivial, hb.block b hl⟩⟩ (fun _ _ h => h), hf3.go ⟨hb.size, fun b _ hl => ⟨trivial, hb.block b hl⟩⟩ (fun _ _ h => h)⟩)
   obtain ⟨n4, h4⟩ : ∃ q, ls'.length = q := ⟨_, rfl⟩
   obtain ⟨n9, h9⟩ : ∃ q, fs.length = q := ⟨_, rfl⟩
   obtain ⟨m9, h9'⟩ : ∃ q, fs'.length = q := ⟨_, rfl⟩
   simp only [h4, h9, h9'] at hcu hcv HCK0 HSM0 hmore
   have hmore' : ¬ (m9 : Int) < (n9 : Int) := by omega
   have HRA : Hid (wr.rangeAt ga (oa + j * 10) [.int .i64 y0, .int .i64 y1, .int .i64 y2, .int .i64 y3, .slice p4 n4 c4, .int .i64 y5, .int .i64 y6, .string ⟨y7.toArray⟩, .string ⟨y8.toArray⟩, .slice r9 m9 d9]) := Lib.hid (fun i v hv => by
    have hi : i < 10 := (List.getElem?_eq_some_iff.1 hv).1
    rw [hcu i hi]
    exact hv)
   have HRL : Hid (wr.rangeAt gl (ol + j * 10) [.int .i64 y0, .int .i64 y1, .int .i64 y2, .int .i64 y3, .slice p4 n4 c4, .int .i64 y5, .int .i64 y6, .string ⟨y7.toArray⟩, .string ⟨y8.toArray⟩, .slice p9 n9 c9]) := Lib.hid (fun i v hv => by
    have hi : i < 10 := (List.getElem?_eq_some_iff.1 hv).1
    rw [hcv i hi]
    exact hv)
   obtain ⟨fsv, hev9⟩ := undEv2
   have HU := Lib.hid hev9
   have HIS := Lib.hid (zero_of_info infoEv).2
   have HGL := Lib.hid hgl
   clear hcu hcv hgood hl3 hf3 k3 h4 h9 h9' hev9 hca hcl hul hvl hga hgl
   obtain ⟨W1, hW1⟩ : ∃ W1, wr.alloc (.cells #[.int .i64 y0, .int .i64 y1, .int .i64 y2, .int .i64 y3, .slice p4 n4 c4, .int .i64 y5, .int .i64 y6, .string ⟨y7.toArray⟩, .string ⟨y8.toArray⟩, .slice r9 m9 d9] 44) = W1 := ⟨_, rfl⟩
   have s1 : W1.heap.size = wr.heap.size + 1 := by rw [← hW1]; exact Deep.nblk_alloc _ _
   have b1 : Below wr.heap.size wr W1 := by rw [← hW1]; exact (Below.refl _ _).alloc (Nat.le_refl _) _
   have xx1 : W1.heap[wr.heap.size]? = some (.cells #[.int .i64 y0, .int .i64 y1, .int .i64 y2, .int .i64 y3, .slice p4 n4 c4, .int .i64 y5, .int .i64 y6, .string ⟨y7.toArray⟩, .string ⟨y8.toArray⟩, .slice r9 m9 d9] 44 (0, 0)) := by rw [← hW1]; exact Deep.blk_alloc_new _ _
   have HX1 := Lib.hid xx1
   have HB1 := Lib.hid b1
   have HS1 := Lib.hid s1
   have hrl1 : W1.cell? ⟨gl, ol + j * 10 + 9, none⟩ = some (.slice p9 n9 c9) := (b1.cell (p := ⟨gl, ol + j * 10 + 9, none⟩) HGL.out).trans (HRL.out 9 _ rfl)
   have hx9 : W1.cell? ⟨wr.heap.size, 9, none⟩ = some (.slice r9 m9 d9) := by rw [Lib.cell_of_heap xx1]; rfl
   clear xx1 b1
   go_wp2_with (refine wpList_load_mid rfl 44 _ rfl ga (oa + j * 10) rfl [.int .i64 y0, .int .i64 y1, .int .i64 y2, .int .i64 y3, .slice p4 n4 c4, .int .i64 y5, .int .i64 y6, .string ⟨y7.toArray⟩, .string ⟨y8.toArray⟩, .slice r9 m9 d9] _ HRA.out HU.out rfl HIS.out ?_)
   have k9 := cell_regrown hx9
   have kl := cell_regrown hrl1
   have HCK := Lib.hid fun d os => HCK0.out (grow (redrawn W1 d) os) (HB1.out.trans ((below_regrown W1 d os).mono (by have := HS1.out; omega)))
   clear hx9 hrl1
   refine wp_region_quiet_below (by kernel_rfl) (by kernel_rfl) ?_
   refine wpq_load_evm (fun _ => rfl) _ rfl wr.heap.size 0 rfl [.int .i64 y0, .int .i64 y1, .int .i64 y2, .int .i64 y3, .slice p4 n4 c4, .int .i64 y5, .int .i64 y6, .string ⟨y7.toArray⟩, .string ⟨y8.toArray⟩, .slice r9 m9 d9] rfl (fun i v hv => by rw [Nat.zero_add, Lib.cell_of_heap HX1.out]; simpa using hv) ?_
   repeat (first | go_big_quiet_step ((go_at_call 17; exact Calls.regrown_of (HCK.out _ _))) | quiet_step ((go_at_call 17; exact Calls.regrown_of (HCK.out _ _))))
   refine wpQuiet_nil ?_
   clear k9 kl
   rintro _ ⟨⟨dq, osq⟩, rfl⟩
   obtain ⟨w3, hw3⟩ : ∃ W, grow (redrawn W1 dq) osq = W := ⟨_, rfl⟩
   have HQ3 : Hid (Below W1.heap.size W1 w3) := Lib.hid (hw3 ▸ below_regrown W1 dq osq)
   dsimp only
   rw [hw3]
   clear hw3
   have hx3 := (HQ3.out.block _ (by have := HS1.out; omega)).trans HX1.out
   have k9 : w3.cell? ⟨wr.heap.size, 9, none⟩ = some (.slice r9 m9 d9) := by rw [Lib.cell_of_heap hx3]; rfl
   have f9 := frz0 hx3 9
   have hr3 : Below wr.heap.size wr w3 := HB1.out.trans (HQ3.out.mono (by have := HS1.out; omega))
   have kl : w3.cell? ⟨gl, ol + j * 10 + 9, none⟩ = some (.slice p9 n9 c9) := (hr3.cell (p := ⟨gl, ol + j * 10 + 9, none⟩) HGL.out).trans (HRL.out 9 _ rfl)
   have hx4 := set_at hx3 9 (.slice p9 n9 c9)
   have hr4 : Below wr.heap.size wr (w3.setCell ⟨wr.heap.size, 9, none⟩ (.slice p9 n9 c9)) := hr3.setCell (p := ⟨wr.heap.size, 9, none⟩) (Nat.le_refl _) _
   obtain ⟨w4, hw4⟩ : ∃ W, w3.setCell ⟨wr.heap.size, 9, none⟩ (.slice p9 n9 c9) = W := ⟨_, rfl⟩
   rw [hw4] at hx4 hr4
   have HX4 : Hid (w4.heap[wr.heap.size]? = some (.cells #[.int .i64 y0, .int .i64 y1, .int .i64 y2, .int .i64 y3, .slice p4 n4 c4, .int .i64 y5, .int .i64 y6, .string ⟨y7.toArray⟩, .string ⟨y8.toArray⟩, .slice p9 n9 c9] 44 (0, 0))) := Lib.hid hx4
   have HR4 := Lib.hid hr4
   clear hx3 hx4 hr3 hr4
   go_wp2_with fail
   have HSM := Lib.hid fun d os => HSM0.out (grow (redrawn w4 d) os) (HR4.out.trans ((below_regrown w4 d os).mono HR4.out.size))
   have HL4 : Hid (w4.rangeAt gl (ol + j * 10) [.int .i64 y0, .int .i64 y1, .int .i64 y2, .int .i64 y3, .slice p4 n4 c4, .int .i64 y5, .int .i64 y6, .string ⟨y7.toArray⟩, .string ⟨y8.toArray⟩, .slice p9 n9 c9]) := Lib.hid (fun i v hv => (HR4.out.cell (p := ⟨gl, ol + j * 10 + i, none⟩) HGL.out).trans (HRL.out i v hv))
   refine wp_region_quiet_below (by kernel_rfl) (by kernel_rfl) ?_
   refine wpq_load_evm (fun _ => rfl) _ rfl wr.heap.size 0 rfl [.int .i64 y0, .int .i64 y1, .int .i64 y2, .int .i64 y3, .slice p4 n4 c4, .int .i64 y5, .int .i64 y6, .string ⟨y7.toArray⟩, .string ⟨y8.toArray⟩, .slice p9 n9 c9] rfl (fun i v hv => by rw [Nat.zero_add, Lib.cell_of_heap HX4.out]; simpa using hv) ?_
   repeat (first | (refine wpq_load_evm (fun _ => rfl) _ rfl gl (ol + j * 10) rfl [.int .i64 y0, .int .i64 y1, .int .i64 y2, .int .i64 y3, .slice p4 n4 c4, .int .i64 y5, .int .i64 y6, .string ⟨y7.toArray⟩, .string ⟨y8.toArray⟩, .slice p9 n9 c9] rfl HL4.out ?_) | go_big_quiet_step ((go_at_call 14; exact Calls.regrown_of (HSM.out _ _))) | quiet_step ((go_at_call 14; exact Calls.regrown_of (HSM.out _ _))))
   refine wpQuiet_nil ?_
   rintro _ ⟨⟨dq, osq⟩, rfl⟩
   obtain ⟨w5, hw5⟩ : ∃ W, grow (redrawn w4 dq) osq = W := ⟨_, rfl⟩
   have HQ5 : Hid (Below w7.heap.size w7 w5) := Lib.hid (HW.out.trans ((HR4.out.trans ((hw5 ▸ below_regrown w4 dq osq).mono HR4.out.size)).mono HW.out.size))
   dsimp only
   rw [hw5]
   clear hw5
   go_wp2_with fail
   go_roundw
   case rel => exact ⟨j + 1, by go_num, by omega, HQ5⟩
   case measure => simp [intOf]; omega
  ·have i1 : ¬ (j : Int) < (n : Int) := by omega
   go_wp2_with fail
   go_ret
   exact ⟨rfl, HB7.out.trans (HW.out.mono HB7.out.size)⟩
end Go.Proofs.YtmpbjaodgajnfaaGreatDoor
namespace Go.Proofs.YtmpbjaodgajnfaaGreatDoor
open Go.ChangeShapes Go.WideShapes Go.ChangeAt Go.RowKit
theorem own : ownKnob Tryz.prog.godebug = none := by kernel_rfl
def litCells : DataW Unit → Array Value
 | .agg l => (l.map fun | .lit (.int k n) => Value.int k n | _ => undef).toArray
 | _ => #[]
def layAt (d : DataW Unit) : Obj → Obj
 | .cells _ t frozen => .cells (litCells d) t frozen
 | o => o
end Go.Proofs.YtmpbjaodgajnfaaGreatDoor
namespace Go.Proofs.YtmpbjaodgajnfaaGreatDoor
open Go.ChangeShapes Go.WideShapes Go.ChangeAt Go.RowKit
theorem gKinds : Tryz.prog.globalNamed "logtide/ascii.kinds" = some 1 := by kernel_rfl
theorem gKindsType : (Tryz.prog.globals[1]?).map (·.type) = some 232 := by kernel_rfl
theorem cellsKinds : Tryz.prog.cellsOf 232 = 256 := by kernel_rfl
theorem cellsU8 : Tryz.prog.cellsOf 5 = 1 := by kernel_rfl
theorem kinds_data : (Rows.laid_logtide_ascii_kinds : DataW Unit) = Lib.tabData .u8 Asc.kTab := by kernel_rfl
theorem kinds_of_head {W : World} {rest : List (String × DataW Unit)} (h : laidMet Tryz.prog (("logtide/ascii.kinds", Rows.laid_logtide_ascii_kinds) :: rest) W) : Kinds W := by
 rw [kinds_data] at h
 have ht : Lib.TabIs Tryz.prog W "logtide/ascii.kinds" .u8 Asc.kTab := Lib.tabIs_of_head (zs := Asc.kTab) (rest := rest) gKinds gKindsType Tryz.underlying232 Tryz.underlying5 cellsU8 cellsKinds h
 have hc : ∀ c, c < 256 → W.cell? ⟨1, c, none⟩ = some (.int .u8 (Asc.kind c : Nat)) := fun c hc => by
  rw [← Asc.kTab_at c hc]
  exact ht.cell gKinds c (by simpa [Asc.kTab] using hc)
 exact ⟨World.block_lt_of_cell? W _ (hc 0 (by omega)), hc⟩
def laidOne : List (String × DataW Unit) := [("logtide/ascii.kinds", Rows.laid_logtide_ascii_kinds)]
theorem k_of_laid {W : World} (h : laidMetH Tryz.prog laidOne W) : Kinds W := kinds_of_head (rest := []) h
noncomputable def laidWorld (os : Os) : World :=
 { World.holding Tryz.prog os ⟨#[], #[], []⟩ with heap := (World.holding Tryz.prog os ⟨#[], #[], []⟩).heap.modify 1 (layAt Rows.laid_logtide_ascii_kinds) }
end Go.Proofs.YtmpbjaodgajnfaaGreatDoor
namespace Go.Proofs.YtmpbjaodgajnfaaGreatDoor
open Go.ChangeShapes Go.WideShapes Go.ChangeAt Go.RowKit
theorem stay_laid : laidOutB Tryz.prog = true := by kernel_rfl
theorem stay_maps : mapsRowed Tryz.prog = true := by kernel_rfl
theorem stay_kids : Kids Tryz.prog (· < Tryz.prog.types.size) := kids_rows stay_laid stay_maps
def slicesSized (P : Program) : Bool := (List.range P.types.size).all fun t => match P.underlying t with | some (.slice e) => decide (0 < P.cellsOf e) | _ => true
theorem stay_sized : slicesSized Tryz.prog = true := by kernel_rfl
theorem stay_pos {t e : TypeId} (ht : t < Tryz.prog.types.size) (h : Tryz.prog.underlying t = some (.slice e)) : 0 < Tryz.prog.cellsOf e := by
 have := (List.all_eq_true.1 stay_sized) t (List.mem_range.2 ht)
 rw [h] at this
 simpa using this
theorem trodAll_stays {H : Type} {enc : TypeId × Value → H} {W W' : World} {sp : Nat → Bool} :
  ∀ {ts : List TypeId} {vs : List Value} {ds : List (DataW H)} {ps : List MemPlace}, (∀ t ∈ ts, t < Tryz.prog.types.size) → DataW.TrodAll enc Tryz.prog W 0 (fun _ => true) true ts vs ds ps →
   (∀ p ∈ ps, W.sameAt W' p) → (∀ p ∈ ps, sp p.block = true) → DataW.TrodAll enc Tryz.prog W' 0 sp true ts vs ds ps
 | [], vs, ds, ps, _, h, _, _ => by
  obtain ⟨rfl, rfl, rfl⟩ := trodAll_nil h
  exact rfl
 | t :: ts, vs, ds, ps, ht, h, h1, h2 => by
  obtain ⟨v, vs', d, ds', p, q, rfl, rfl, rfl, ⟨fuel, hf⟩, hr⟩ := trodAll_cons h
  refine ⟨p, q, ⟨fuel, DataW.trod_stays (x := (d, p)) stay_kids stay_pos (fun h => by cases h) (ht t (by simp)) hf (fun x hx => h1 x (List.mem_append_left _ hx)) (fun x hx => h2 x (List.mem_append_left _ hx))⟩, ?_, rfl⟩
  exact trodAll_stays (fun t h => ht t (List.mem_cons_of_mem _ h)) hr (fun x hx => h1 x (List.mem_append_right _ hx)) (fun x hx => h2 x (List.mem_append_right _ hx))
theorem post_true {H : Type} {enc : TypeId × Value → H} {f : Func} {s : ChangeSpec} {W W' : World} {args : Array Value} {ds gs : List (DataW H)} {before : List MemPlace}
  (hW : DataW.Whole enc Tryz.prog f.params.toList s.vars false W args.toList ds gs before) (hvars : s.vars = []) (hT : ∀ t ∈ f.params.toList, t < Tryz.prog.types.size)
  (hrt : f.resultTypes = #[4]) (hres : (s.fn H ds).results = [.lit (.bool true)]) (hargs : (s.fn H ds).args = ds) (hv : (s.fn H ds).vars = []) (hb : Below W.heap.size W W') :
  s.post enc Tryz.prog f false true false false W args (.bool true) W' := by
 have hlt := hW.lt
 have hW0 := hW
 obtain ⟨p, q, hA, hV, rfl, _, _⟩ := hW
 rw [hvars] at hV
 obtain ⟨rfl, rfl⟩ := trodVars_none hV
 rw [List.append_nil] at hlt
 refine ⟨ds, [], p ++ [], [], p, [], hW0, ?_, ?_, ?_, hb.frame _, fun h => by cases h⟩
 ·rw [List.append_nil, hres, hrt]
  exact trodAll_cons_mk (shut_bool Tryz.underlying4 _) trodAll_mk0
 ·rw [List.append_nil, hargs]
  exact trodAll_stays hT hA (fun x hx => hb.same (hlt x hx)) (fun x hx => by simpa using hlt x hx)
 ·rw [List.append_nil, hv, hvars]
  exact rfl
end Go.Proofs.YtmpbjaodgajnfaaGreatDoor
namespace Go.Proofs.YtmpbjaodgajnfaaGreatDoor
open Go.ChangeShapes Go.WideShapes Go.ChangeAt Go.RowKit
open Go.ChangeMaps (open_string shut_string)
theorem cellsU8q : Tryz.prog.cellsOf 5 = 1 := by kernel_rfl
set_option maxRecDepth 1000000 in
theorem open_bytes {H : Type} {enc : TypeId × Value → H} {W : World} {base : Nat} {v : Value} {d : DataW H} {p : List MemPlace} (hv : Value.okWide Tryz.prog W .any base 22 v)
  (h : DataW.Trod enc Tryz.prog W 0 (fun _ => true) true 22 v d p) : ∃ bs, BSI W v bs := by
 obtain ⟨a0, len, cap, rfl⟩ := okWide_slice Tryz.underlying22 hv
 obtain ⟨fuel, hf⟩ := h
 rcases open_ints Tryz.underlying22 Tryz.underlying5 cellsU8q hf with ⟨hcs, hx⟩ | ⟨a, len', cap', zs, hcs, _, hl, hm, hz, hx, hcell, hwz⟩
 ·simp only [Prod.mk.injEq] at hx
  obtain ⟨rfl, rfl⟩ := hx
  simp [Value.cells] at hcs
  obtain ⟨rfl, rfl, rfl⟩ := hcs
  exact ⟨[], .inl ⟨rfl, rfl⟩⟩
 ·simp only [Prod.mk.injEq] at hx
  obtain ⟨rfl, rfl⟩ := hx
  simp [Value.cells] at hcs
  obtain ⟨rfl, rfl, rfl⟩ := hcs
  simp only [if_true] at hz
  have hl2 : (zs.take len).length = len := by rw [List.length_take]; omega
  refine ⟨(zs.take len).map fun z => UInt8.ofNat z.toNat, .inr ⟨a, cap, by rw [List.length_map, hl2], by rw [List.length_map, hl2]; exact hl, fun j u hj => ?_⟩⟩
  ·unfold Lib.byteCells at hj
   rw [List.map_map, List.getElem?_map] at hj
   obtain ⟨z, hz1, rfl⟩ := Option.map_eq_some_iff.1 hj
   have hj1 : j < len := by have := (List.getElem?_eq_some_iff.1 hz1).1; omega
   rw [List.getElem?_take_of_lt hj1] at hz1
   obtain ⟨hj2, hz3⟩ := List.getElem?_eq_some_iff.1 hz1
   have hc := hcell j hj2
   have e : zs.getD j 0 = z := by simp [List.getD, hz1]
   rw [e] at hc
   obtain ⟨n, hn, rfl⟩ := u8_nat (hwz z (by rw [← hz3]; exact List.getElem_mem hj2))
   rw [hc]
   simp only [Function.comp_apply, Int.toNat_natCast]
   rw [Asc.ofNat_toNat8 hn]
end Go.Proofs.YtmpbjaodgajnfaaGreatDoor
namespace Go.Proofs.YtmpbjaodgajnfaaGreatDoor
open Go.ChangeShapes Go.WideShapes Go.ChangeAt Go.RowKit
set_option maxRecDepth 1000000 in
theorem alone_law {H : Type} {enc : TypeId × Value → H} {W : World} {base : Nat} {args : Array Value} {ds : List (DataW H)} {p : List MemPlace}
  (hval : ∀ (j : Nat) t v, (#[22] : Array TypeId)[j]? = some t → args[j]? = some v → Value.okWide Tryz.prog W .any base t v)
  (hA : DataW.TrodAll enc Tryz.prog W 0 (fun _ => true) true [22] args.toList ds p) {B : Prop} (_ : B) (hL : laidMetH Tryz.prog laidOne W) :
  Calls Tryz.prog 4 args W fun e w' => e = .returned (.bool true) ∧ Below W.heap.size W w' := by
 obtain ⟨v0, vs0, d0, ds0, p0, q0, hargs, rfl, rfl, h0, r0⟩ := trodAll_cons hA
 obtain ⟨rfl, rfl, rfl⟩ := trodAll_nil r0
 obtain rfl : args = #[v0] := by cases args; simp_all
 obtain ⟨bs, hbs⟩ := open_bytes (hval 0 22 v0 rfl rfl) h0
 exact alone_any bs v0 W (k_of_laid hL) hbs.bs
end Go.Proofs.YtmpbjaodgajnfaaGreatDoor
namespace Go.Proofs.YtmpbjaodgajnfaaGreatDoor
open Go.ChangeShapes Go.WideShapes Go.ChangeAt Go.RowKit
namespace AloneRow
set_option maxRecDepth 1000000 in
theorem contract (H : Type) (enc : TypeId × Value → H) (W : World) (base : Nat) (args : Array Value) (ds gs : List (DataW H)) (before : List MemPlace)
  (hval : ∀ (j : Nat) t v, Tryz.f4.params[j]? = some t → args[j]? = some v → Value.okWide Tryz.prog W .any base t v)
  (hW : DataW.Whole enc Tryz.prog Tryz.f4.params.toList Rows.extractChangesFieldsAloneSpec.vars false W args.toList ds gs before)
  (hbound : (DataW.weightsEach Tryz.prog (Tryz.f4.params.toList ++ (OpenSpec.ofChange Rows.extractChangesFieldsAloneSpec).bare.plain.varTypes Tryz.prog) (ds ++ gs)).all (· ≤ reachBytes) = true)
  (hL : laidMetH Tryz.prog Rows.extractChangesFieldsAloneRow.laid W) :
  Calls Tryz.prog 4 args W fun e W' => ∃ v, e = .returned v ∧ Rows.extractChangesFieldsAloneSpec.post enc Tryz.prog Tryz.f4 false true false false W args v W' := by
 have hW' := hW
 obtain ⟨p, q, hA, hV, rfl, _, _⟩ := hW
 obtain ⟨rfl, rfl⟩ := trodVars_none hV
 rw [List.append_nil] at hbound
 rw [Tryz.params4] at hA hval
 refine (alone_law hval hA hbound hL).mono fun e W' ⟨he, hb⟩ => ?_
 subst he
 refine ⟨_, rfl, post_true hW' rfl ?_ rfl ?_ ?_ ?_ hb⟩
 ·rw [Tryz.params4]
  intro t ht
  simp only [List.mem_cons, List.not_mem_nil, or_false] at ht
  have hs : decide (22 < Tryz.prog.types.size) = true := by kernel_rfl
  rcases ht with rfl
  exact of_decide_eq_true hs
 all_goals
  obtain ⟨v0, vs0, d0, ds0, p0, q0, hargs, rfl, rfl, h0, r0⟩ := trodAll_cons hA
  obtain ⟨_, rfl, rfl⟩ := trodAll_nil r0
  rfl
theorem laid_met (os : Os) : laidMet Tryz.prog Rows.extractChangesFieldsAloneRow.laid ((laidWorld os).forCall (fun _ _ => 0) ⟨#[], #[.slice none 0 0], []⟩).memory :=
 laidMet_of_run' 8 (by kernel_rfl) (by kernel_rfl)
theorem reads (os : Os) {H : Type} (enc : TypeId × Value → H) : ∃ places, DataW.whole enc Tryz.prog ((laidWorld os).forCall (fun _ _ => 0) ⟨#[], #[.slice none 0 0], []⟩).memory Tryz.f4.params.toList Rows.extractChangesFieldsAloneSpec.vars false (#[.slice none 0 0] : Array Value).toList 8 = some ([.nil], [], places) :=
 ⟨[], by kernel_rfl⟩
set_option maxRecDepth 100000 in
theorem lifted (os : Os) (started : os.Started) (H : Type) (enc : TypeId × Value → H) (F : Stop.Interp) :
  ReturnsInHanded {} Tryz.checked os 4 .any ((OpenSpec.ofChange Rows.extractChangesFieldsAloneSpec).preRow enc Tryz.prog Tryz.f4 Rows.extractChangesFieldsAloneRow.domain false Rows.extractChangesFieldsAloneRow.laid) (((OpenSpec.ofChange Rows.extractChangesFieldsAloneSpec).at F).post enc Tryz.prog Tryz.f4 false true false false) := by
 obtain ⟨places, hx⟩ := reads os enc
 refine returnsInHanded_of_row (C := Tryz.checked) (s := (OpenSpec.ofChange Rows.extractChangesFieldsAloneSpec)) own started (by kernel_rfl) Tryz.func4
  (witness_row_at (enc := enc) (C := Tryz.checked) false (laidWorld os) #[.slice none 0 0] rfl (by kernel_rfl) (by kernel_rfl) (by kernel_rfl)
   (OpenSpec.preRow_of_cond 8 hx (by kernel_rfl) (fun k hk => by cases hk) (by kernel_rfl) (laid_met os))) ?_
 intro W base args ds gs before hval hW _ _ hsz hL _ _
 exact contract H enc W base args ds gs before hval hW hsz hL
theorem said : Rows.ExtractChangesFieldsAloneSaid :=
 OpenClaim.holds_of_cond 4 Tryz.f4 rfl rfl rfl rfl rfl rfl rfl ⟨rfl, rfl, rfl, rfl, rfl⟩ rfl rfl rfl rfl rfl (by kernel_rfl) Tryz.func4 (by kernel_rfl)
  (of_decide_eq_true (by kernel_rfl)) (by unfold Func.isWrapper; first | (rw [if_pos (by decide +kernel)]; kernel_rfl) | (rw [if_neg (by decide +kernel)]; exact ⟨rfl, rfl⟩))
  (fun os started H enc _ F => by rw [OpenClaim.pre_eq_preRow]; exact lifted os started H enc F)
theorem plain (f : FuncId) (fn : Func) (hf : Tryz.pinned.checked.prog.funcNamed "logtide/logtidelaw35.ExtractChangesFieldsAlone" = some f) (hfn : Tryz.pinned.checked.prog.funcs[f]? = some fn) :
  false = Tryz.pinned.checked.prog.looks [] ∧ ∀ (j : Nat) t, fn.params[j]? = some t → Tryz.pinned.checked.prog.wantsStandIn t = false := by
 obtain rfl : f = 4 := Option.some.inj ((show Tryz.prog.funcNamed "logtide/logtidelaw35.ExtractChangesFieldsAlone" = some 4 by kernel_rfl).symm.trans hf) |>.symm
 obtain rfl : fn = Tryz.f4 := (Option.some.inj (Tryz.func4.symm.trans hfn)).symm
 refine ⟨by kernel_rfl, fun j t ht => ?_⟩
 rw [Tryz.params4] at ht
 have hm := Array.mem_of_getElem? ht
 simp only [List.mem_toArray, List.mem_cons, List.not_mem_nil, or_false] at hm
 rcases hm with rfl
 ·exact (show Tryz.prog.wantsStandIn 22 = false by kernel_rfl)
end AloneRow
theorem alone_card : Rows.ExtractChangesFieldsAloneCardSaid :=
 Claim7.holds_tied_plain_at .later [] _ _ _ _ AloneRow.said (fun _ h => by cases h) (by kernel_rfl) (fun _ h => by cases h) extractChangesFieldsAlone_row_tie rfl ⟨rfl, rfl⟩ (by kernel_rfl) rfl AloneRow.plain (by kernel_rfl)
#print axioms alone_card
end Go.Proofs.YtmpbjaodgajnfaaGreatDoor

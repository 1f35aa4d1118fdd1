/-
  Parse, where it says yes.
-/
import Derived.Test.YtphbkompnddflaaGreatDoorPatYe
import Derived.Test.YtphbkompnddflaaGreatDoorPatN
namespace Go.Proofs.YtphbkompnddflaaGreatDoor
open Go.RowKit

theorem SL.lit {b i : Nat} {l : List UInt8} {w W : World} {t : NT} (h : PR b l i w W) (us : List Value) (hu : us.length = 6) (hT : KR (fun k => w.heap.size < k) W t us) : SL b l i w [t] (.slice (some ⟨W.heap.size, 0, none⟩) 1 1) (W.alloc (.cells us.toArray 25)) :=
  ⟨h.on (al_below W _), OR.lit W t us h.sz hu (KR.go ⟨(al_below W _).size, fun k hk hl => ⟨⟨hk, fun e => by simp only [Value.ownBlock, Option.some.injEq] at e; omega⟩, (al_below W _).block k hl⟩⟩ _ _ hT)⟩
/-- The further alternatives from i to j. -/
inductive Alts (b : Nat) (l : List UInt8) : Nat → List NT → Nat → Prop
  | nil (j : Nat) : Alts b l j [] j
  | cons (i k j : Nat) (t : NT) (ts : List NT) (hv : Asc.at_ l i = 124) (hr : RdC 44 b l (i + 1) t k) (hc : Alts b l k ts j) : Alts b l i (t :: ts) j

set_option maxHeartbeats 4000000 in
set_option maxRecDepth 1000000 in
theorem choice_any (b : Nat) (l : List UInt8) (i m : Nat) (t0 : NT) (ts : List NT) (j : Nat) (h0 : RdC 44 b l i t0 m) (hch : Alts b l m ts j) (hstop : Asc.at_ l j ≠ 124) (hts : ts.length ≤ 999) : RdC 29 b l i (joinT 3 (t0 :: ts)) j := by
  intro w h
  have HC := Lib.hid hch
  have HST := Lib.hid hstop
  have H0 := Lib.hid h0
  have HS := Lib.hid (PR.start h)
  clear h hch hstop h0
  obtain ⟨i0, hi, hz0, hz1, hz2⟩ := info_parts infoN
  go_enter Tryz.func29, Tryz.ntmps29
  go_wp2_with fail
  refine (H0.out _ HS.out.ps).mono ?_
  rintro e w0 ⟨x, rfl, hT, hq⟩
  have HS0 := Lib.hid (HS.out.go hq)
  have HT0 := Lib.hid (hT.up HS.out.sz)
  obtain ⟨op, rs, nm, kk, mn, mx, ra2, rc2, a, cc, ht, rfl, _⟩ := hT.open
  have HL0 := Lib.hid (SL.lit HS0.out [.int .i64 op, .slice ra2 rs.length rc2, .string ⟨nm.toArray⟩, .slice a kk.length cc, .int .i64 mn, .int .i64 mx] rfl HT0.out)
  clear hq hT ht HS HS0 HT0
  go_wp2_with fail
  go_loopw [3] (fun v wr => ∃ (k : Nat) (kids rest : List NT), Hid (kids ++ rest = t0 :: ts) ∧ kids.length + rest.length ≤ 1000 ∧ slLen v = kids.length ∧ Hid (Alts b l k rest j) ∧ Hid (SL b l k w kids v wr)) (fun v _ => 1001 - slLen v)
  case atStart => exact ⟨m, [t0], ts, Lib.hid rfl, by simp; omega, rfl, HC, HL0⟩
  case round =>
    obtain ⟨k, kids, rest, HE, hlen, hsl, HCH, HSL⟩ := hrel
    clear HL0 HC hts
    have hrow := HSL.out.rows
    obtain ⟨ra, rc, rfl, _⟩ := hrow
    clear hsl
    cases rest with
    | nil =>
      have HKT : Hid (kids = t0 :: ts) := Lib.hid (by simpa using HE.out)
      cases HCH.out
      have HN := Lib.hid fun W (hW : PS b l j W) => ptakes_no b l j W hW 124 HST.out
      go_wp2_with fail
      refine (HN.out _ HSL.out.pr.ps).mono ?_
      rintro e w1 ⟨rfl, hq⟩
      have HS1 := Lib.hid (HSL.out.go hq)
      clear hq HSL
      go_wp2_with fail
      refine (join_any 3 kids _ _ (w.heap.size + 1) HS1.out.rows).mono ?_
      rintro e w3 ⟨x, rfl, hT, hb⟩
      have HS3 := Lib.hid (HS1.out.pr.on hb)
      have HT3 := Lib.hid (HKT.out ▸ hT)
      obtain ⟨op, rs, nm, kk, mn, mx, ra2, rc2, a, cc, ht, rfl, _⟩ := hT.open
      clear hT hb ht HS1
      obtain ⟨k0, k1, k2, k3, k4, k5, f0, f1, f2, f3, f4, f5⟩ := bk6 HS3.out.bk
      go_wp2_with fail
      rw [nest6 w3]
      exact node_ret3 (P := 2) rfl HS3.out _ _ rfl (by rfl) HT3.out
    | cons t rest =>
      cases HCH.out with
      | cons _ k2 _ _ _ hv hr hc =>
      have HR := Lib.hid hr
      have HC2 := Lib.hid hc
      have HN := Lib.hid fun W (hW : PS b l k W) => ptakes_yes b l k W hW 124 hv (by decide)
      clear hr hc hv
      go_wp2_with fail
      refine (HN.out _ HSL.out.pr.ps).mono ?_
      rintro e w1 ⟨rfl, hq⟩
      have HS1 := Lib.hid (HSL.out.go hq)
      clear hq HSL
      go_wp2_with fail
      refine (HR.out _ HS1.out.pr.ps).mono ?_
      rintro e w2 ⟨x, rfl, hT, hq⟩
      have HS2 := Lib.hid (HS1.out.go hq)
      have HT2 := Lib.hid (HS1.out.new hT)
      obtain ⟨op, rs, nm, kk, mn, mx, ra2, rc2, a, cc, ht, rfl, _⟩ := hT.open
      clear hq hT ht HS1
      obtain ⟨cs, hown, hpush⟩ := HS2.out.row.cells
      have HPU := Lib.hid hpush
      have HSZ := Lib.hid HS2.out.pr.sz
      clear hpush
      go_wp2_with (at_builtin; refine wpList_append_lies _ rfl _ _ 23 rfl (w.heap.size + 1) 25 i0 (.agg #[.int .i64 0, .slice none 0 0, .string ⟨#[]⟩, .slice none 0 0, .int .i64 0, .int .i64 0]) 6 88 Tryz.underlying23 hi hz0 hz1 hz2 rfl (by decide) _ kids.length cs rfl (hown.alloc _) ⟨w2.heap.size, 0, none⟩ 1 1 [.int .i64 op, .slice ra2 rs.length rc2, .string ⟨nm.toArray⟩, .slice a kk.length cc, .int .i64 mn, .int .i64 mx] rfl rfl (World.news_of_block (heap_alloc_new w2 _)) (node_one _ _ _ _ _ _ _ _ _ _) (by omega) (by unfold maxLen; omega) (by omega) (Nat.le_trans HSZ.out (by simp)) _ rfl ?_; intro g6 cap6 w6 hown6 hgr6 hat6 hlt6; have HS6 := Lib.hid (HS2.out.push cs hown HPU.out hgr6 hat6 rfl _ rfl HT2.out (by omega) hown6); clear hown6 hgr6 hat6 hlt6 hown)
      refine ⟨⟨k2, kids ++ [t], rest, Lib.hid (by rw [List.append_assoc, List.singleton_append]; exact HE.out), by simp; simp at hlen; omega, by simp [slLen], HC2, HS6⟩, by simp [slLen]; simp at hlen; omega⟩
end Go.Proofs.YtphbkompnddflaaGreatDoor
namespace Go.Proofs.YtphbkompnddflaaGreatDoor
open Go.RowKit

/-- A node and two plain results. -/
theorem results_item3 {P : Program} {fn : Func} {p t u : Tmp} {ty : TypeId} (h : fn.results = #[.cell p ty, .tmp t, .tmp u]) (tmps : Array Value) (w : World) (g : Nat) (cs : List Value) (d : TypeDesc)
    (hp : tmps.getD p undef = .pointer (some ⟨g, 0, none⟩)) (hc : ∀ j v, cs[j]? = some v → w.cell? ⟨g, j, none⟩ = some v)
    (hu : P.underlying ty = some d) (hd : (match d with | .struct _ | .array _ _ => true | _ => false) = true) (hi : (P.info? ty).map (·.size) = some cs.length) :
    (results fn tmps).run P w = .ok (.tuple #[.agg cs.toArray, tmps.getD t undef, tmps.getD u undef]) w := by
  have hl : (loadCells ⟨g, 0, none⟩ cs.length).run P w = .ok cs.toArray w :=
    run_loadCells_list (P := P) w ⟨g, 0, none⟩ cs (fun j v hv => by
      have hadd : (⟨g, 0, none⟩ : Addr).add j = ⟨g, j, none⟩ := by unfold Addr.add; split <;> simp_all
      rw [hadd]
      exact hc j v hv)
  have hv : (loadVar ty ⟨g, 0, none⟩).run P w = .ok (.agg cs.toArray) w := by
    cases hq : P.info? ty with
    | none => simp [hq] at hi
    | some i =>
      have hs : i.size = cs.length := by simpa [hq] using hi
      have hagg : (isAgg ty).run P w = .ok true w := by
        unfold isAgg
        rw [Sem.run_bind, run_underlying hu w]
        cases d <;> simp_all
      simp [loadVar, Sem.run_bind, hagg, sizeOf, typeInfo, hq, hs, hl]
  have hp' : tmps[p]?.getD undef = .pointer (some ⟨g, 0, none⟩) := by simpa using hp
  simp [results, h, hp', asAddr, hv]
theorem item_ret3 {fn : Func} {P t u : Tmp} (hfn : fn.results = #[.cell P 25, .tmp t, .tmp u]) {W : World} {b : Nat} {E : Nat → Value} (hS : BK b 6 E W) {tmps : Array Value} {df : _} (hdf : df = []) (hp : tmps.getD P undef = .pointer (some ⟨b, 0, none⟩)) {v0 v1 v2 v3 v4 v5 : Value} {post : Ending → World → Prop}
    (h : post (.returned (.tuple #[.agg #[v0, v1, v2, v3, v4, v5], tmps.getD t undef, tmps.getD u undef])) (setL W b [v0, v1, v2, v3, v4, v5] 0)) :
    bodyPost Tryz.prog fn post Exit.ret { tmps := tmps, defers := df } (setL W b [v0, v1, v2, v3, v4, v5] 0) := by
  have hc := setL_at (b := b) [v0, v1, v2, v3, v4, v5] W 0 (fun j _ hj => ⟨_, hS.ev j (by simpa using hj)⟩)
  exact bodyPost_ret (results_item3 (ty := 25) hfn tmps _ b [v0, v1, v2, v3, v4, v5] _ hp (fun j v hv => by have := hc j v hv; rwa [Nat.zero_add] at this) Tryz.underlying25 rfl (by kernel_rfl)) hdf h

set_option maxHeartbeats 4000000 in
set_option maxRecDepth 1000000 in
theorem parse_ok (l : List UInt8) (t : NT) (hl : l.length ≤ 400) (hc : ∀ b, 0 < b → RdC 29 b l 0 t l.length) (he : ckE t = 0) (w : World) (hk : Kinds w) :
    Calls Tryz.prog 14 #[.string ⟨l.toArray⟩] w fun e w' => ∃ v, e = .returned (.tuple #[v, .int .i64 l.length, .int .i64 0]) ∧ NG (fun k => w.heap.size ≤ k) w' t v ∧ Below w.heap.size w w' := by
  have hkb : 0 < w.heap.size + 1 := Nat.lt_succ_of_lt hk.1
  have HC := Lib.hid (hc (w.heap.size + 1) hkb)
  have HE := Lib.hid he
  have z0 : decide ((400 : Int) < (l.length : Int)) = false := decide_eq_false (by omega)
  have y0 : decide (400 < l.length) = false := decide_eq_false (by omega)
  have hb1 := al_below w (.cells #[.int .i64 0, .slice none 0 0, .string ⟨#[]⟩, .slice none 0 0, .int .i64 0, .int .i64 0] 25)
  have hb2 := al_below (w.alloc (.cells #[.int .i64 0, .slice none 0 0, .string ⟨#[]⟩, .slice none 0 0, .int .i64 0, .int .i64 0] 25)) (.cells #[.string ⟨l.toArray⟩, .int .i64 0, .int .i64 0] 71)
  have HB0 := Lib.hid (hb1.trans (hb2.mono hb1.size))
  have HS0 : Hid (PS (w.heap.size + 1) l 0 ((w.alloc (.cells #[.int .i64 0, .slice none 0 0, .string ⟨#[]⟩, .slice none 0 0, .int .i64 0, .int .i64 0] 25)).alloc (.cells #[.string ⟨l.toArray⟩, .int .i64 0, .int .i64 0] 71))) := Lib.hid ⟨by
      have := BK.new (w.alloc (.cells #[.int .i64 0, .slice none 0 0, .string ⟨#[]⟩, .slice none 0 0, .int .i64 0, .int .i64 0] 25)) #[.string ⟨l.toArray⟩, .int .i64 0, .int .i64 0] 71 (psE l 0 0) 3 (fun i hi => by
        match i, hi with
        | 0, _ => rfl
        | 1, _ => rfl
        | 2, _ => rfl)
      unfold PSt
      simpa using this, Nat.zero_le _, by omega, hk.below (HB0.out), hkb⟩
  have HK0 := Lib.hid ((nE_new w 0 none 0 0 [] none 0 0 0 0).on hb2 (by simp))
  clear hk hc he hb1 hb2 hkb
  go_enter Tryz.func14, Tryz.ntmps14
  go_wp2_with fail
  refine (HC.out _ HS0.out).mono ?_
  rintro e w1 ⟨v, rfl, hT, hq⟩
  have HB1 := Lib.hid (hq.ap.below HB0.out (Nat.le_succ _))
  have HK1 := Lib.hid (HK0.out.go hq.ap (Nat.ne_of_lt (Nat.lt_succ_self _)))
  have HS1 := Lib.hid hq.ps
  have HT1 := Lib.hid (hT.up (B := w.heap.size) (by simp; omega))
  obtain ⟨op, rs, nm, kids, mn, mx, ra, rc, a, cc, ht, rfl, _⟩ := hT.open
  have HLT := Lib.hid HK1.out.lt
  clear hT hq ht HB0 HK0 HS0
  have hal := al_below w1 (.cells #[.int .i64 op, .slice ra rs.length rc, .string ⟨nm.toArray⟩, .slice a kids.length cc, .int .i64 mn, .int .i64 mx] 25)
  have HS2 := Lib.hid (HS1.out.on hal HS1.out.st.lt)
  have HT2 := Lib.hid (HT1.out.low hal)
  have HK2 := Lib.hid (HK1.out.on hal HK1.out.lt)
  have HQ2 := Lib.hid (nE_new w1 op ra rs.length rc nm a kids.length cc mn mx)
  have HB2 := Lib.hid (HB1.out.trans (hal.mono HB1.out.size))
  have c1 := HS2.out.c1
  have c2 := HS2.out.c2
  clear hal HB1 HK1 HS1 HT1
  go_wp2_with fail
  refine (check_any t _ _ HT2.out.at HS2.out.kd).mono ?_
  rintro e w2 ⟨rfl, hb⟩
  rw [HE.out]
  have HT3 := Lib.hid (HT2.out.low hb)
  have HK3 := Lib.hid (HK2.out.on hb HK2.out.lt)
  have HQ3 := Lib.hid (HQ2.out.on hb HQ2.out.lt)
  have HB3 := Lib.hid (HB2.out.trans (hb.mono HB2.out.size))
  clear hb HT2 HK2 HS2 HB2 c1 c2
  obtain ⟨q0, q1, q2, q3, q4, q5⟩ := bkn HQ3.out
  obtain ⟨q, hq⟩ : ∃ q, w1.heap.size = q := ⟨_, rfl⟩
  have hqw : q ≠ w.heap.size := by have := HLT.out; omega
  rw [hq] at q0 q1 q2 q3 q4 q5 ⊢
  obtain ⟨k0, k1, k2, k3, k4, k5, f0, f1, f2, f3, f4, f5⟩ := bk6 HK3.out
  go_wp2_with fail
  rw [nest6 w2]
  have hbl := setL_below (B := w.heap.size) (b := w.heap.size) (Nat.le_refl _) [.int .i64 op, .slice ra rs.length rc, .string ⟨nm.toArray⟩, .slice a kids.length cc, .int .i64 mn, .int .i64 mx] w2 0
  exact item_ret3 (P := 2) rfl HK3.out rfl (by rfl) ⟨_, rfl, NG.go ⟨hbl.size, fun j hj _ => ⟨Nat.le_of_lt hj, setL_heap _ (Nat.ne_of_gt hj) _ _⟩⟩ _ _ HT3.out, HB3.out.trans hbl⟩
end Go.Proofs.YtphbkompnddflaaGreatDoor

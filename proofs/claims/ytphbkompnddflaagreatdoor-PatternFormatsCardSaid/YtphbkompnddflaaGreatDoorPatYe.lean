/-
  The parser: a sequence.
-/
import Derived.Test.YtphbkompnddflaaGreatDoorPatYc
namespace Go.Proofs.YtphbkompnddflaaGreatDoor
open Go.RowKit

set_option maxHeartbeats 2000000 in
set_option maxRecDepth 1000000 in
theorem group_named (b : Nat) (l : List UInt8) (i n : Nat) (t : NT) (j : Nat) (hn : capN (l.drop i) = n) (hn0 : 0 < n) (hn1 : i + n + 1 ≤ l.length) (hg : RdC 29 b l (i + n + 1) t j) (hj : Asc.at_ l j = 41) (s0 : UInt8) (sg : List UInt8) (hsg : Asc.seg l i (i + n) = s0 :: sg) : RdC 80 b l i (.node 5 [] (s0 :: sg) [t] 0 0) (j + 1) := by
  intro w h
  have HCP := Lib.hid fun W (hW : PS b l i W) => (capt_any (l.drop i) W hW.kd (by have := hW.len; rw [List.length_drop]; omega)).mono fun _ w' h => (⟨h.1, h.2.symm⟩ : _ ∧ w' = W)
  rw [hn] at HCP
  have HG := Lib.hid hg
  have HX := Lib.hid fun W (hW : PS b l j W) => pexpect_yes b l j W hW 41 hj (by decide)
  have hl2 := h.len
  have hile := h.le
  have HS := Lib.hid (PR.start h)
  have c0 := HS.out.ps.c0
  have c1 := HS.out.ps.c1
  have c2 := HS.out.ps.c2
  have f1 := HS.out.ps.st.fz 1
  have i0 : (0 : Int) ≤ (i : Int) := by omega
  have i1 : (i : Int) ≤ (l.length : Int) := by omega
  have i2 : ((i : Int) + (n : Int)) ≤ (l.length : Int) := by omega
  have i3 : (i : Int) ≤ (i : Int) + (n : Int) := by omega
  have w1 : IntKind.i64.wrap ((i : Int) + (n : Int)) = (i : Int) + (n : Int) := IntWalk.i64_in _ (by omega)
  have w2 : IntKind.i64.wrap ((n : Int) + 1) = (n : Int) + 1 := IntWalk.i64_in _ (by omega)
  have w3 : IntKind.i64.wrap ((i : Int) + ((n : Int) + 1)) = (i : Int) + ((n : Int) + 1) := IntWalk.i64_in _ (by omega)
  have z0 : decide ((0 : Int) < (n : Int)) = true := decide_eq_true (by omega)
  have y0 : decide (0 < n) = true := decide_eq_true hn0
  have HNM := Lib.hid (show (s0 :: sg).length ≤ 1000 by rw [← hsg, Asc.seg_length l (by omega)]; omega)
  have HSG := Lib.hid hsg
  clear h hg hj hn hsg
  go_enter Tryz.func80, Tryz.ntmps80
  go_wp2_with fail
  go_quiet (first | (go_at_call 89; simp only [ext_drop]; refine Calls.quiet_of_same (HCP.out _ (HS.out.ps.drewN _).ps)))
  have HS1 := Lib.hid (HS.out.go (HS.out.ps.drewN nq))
  go_wp2_with fail
  go_quiet (fail)
  have HS2 := Lib.hid (HS1.out.go (HS1.out.ps.drewN nq))
  have HS3 := Lib.hid (HS2.out.go (HS2.out.ps.to (i + n + 1) hn1))
  clear HS HS1 HS2
  go_wp2_with fail
  rw [← World.drewN_drewN, show ((i : Int) + ((n : Int) + 1)) = ((i + n + 1 : Nat) : Int) by omega]
  refine (HG.out _ HS3.out.ps).mono ?_
  rintro e wc ⟨v, rfl, hT, hq⟩
  have HS4 := Lib.hid (HS3.out.go hq)
  have HT4 := Lib.hid (hT.up HS3.out.sz)
  obtain ⟨op, rs, nm, kids, mn, mx, ra, rc, a, cc, ht, rfl, _⟩ := hT.open
  have HP := Lib.hid (PA.start HS4.out HT4.out)
  clear hT hq ht HS3 HS4 HT4
  go_wp2_with fail
  refine (HX.out _ HP.out.pr.ps).mono ?_
  rintro e w5 ⟨rfl, hq⟩
  have HP5 := Lib.hid (HP.out.go hq)
  clear hq HP
  rw [Asc.extract_seg, HSG.out]
  clear c0 c1 c2 f1
  obtain ⟨q0, q1, q2, q3, q4, q5⟩ := bkn HP5.out.bk
  obtain ⟨q, hq⟩ : ∃ q, wc.heap.size = q := ⟨_, rfl⟩
  rw [hq] at q0 q1 q2 q3 q4 q5 ⊢
  have hqw : q ≠ w.heap.size := by have := HP5.out.hq; omega
  have HR5 := Lib.hid (HP5.out.pr.on (al_below w5 (.cells #[.int .i64 op, .slice ra rs.length rc, .string ⟨nm.toArray⟩, .slice a kids.length cc, .int .i64 mn, .int .i64 mx] 25)))
  have HK : Hid (RW (fun k => w.heap.size < k) 6 (KR (fun k => w.heap.size < k) (w5.alloc (.cells #[.int .i64 op, .slice ra rs.length rc, .string ⟨nm.toArray⟩, .slice a kids.length cc, .int .i64 mn, .int .i64 mx] 25))) (w5.alloc (.cells #[.int .i64 op, .slice ra rs.length rc, .string ⟨nm.toArray⟩, .slice a kids.length cc, .int .i64 mn, .int .i64 mx] 25)) [t] (.slice (some ⟨w5.heap.size, 0, none⟩) 1 1)) :=
    Lib.hid ((OR.lit (B := w.heap.size + 1) w5 t [.int .i64 op, .slice ra rs.length rc, .string ⟨nm.toArray⟩, .slice a kids.length cc, .int .i64 mn, .int .i64 mx] HP5.out.pr.sz rfl (HP5.out.ng.low (al_below w5 _))).rw (fun _ hb => hb))
  obtain ⟨k0, k1, k2, k3, k4, k5, f0, f1, f2, f3, f4, f5⟩ := bk6 HR5.out.bk
  go_wp2_with fail
  rw [nest6]
  exact node_ret3 (P := 2) rfl HR5.out _ _ rfl (by rfl) (NG.node (rs := []) (kids := [t]) RW.nil HK.out 5 (s0 :: sg) 0 0 HNM.out)
end Go.Proofs.YtphbkompnddflaaGreatDoor
namespace Go.Proofs.YtphbkompnddflaaGreatDoor
open Go.RowKit

/-- Within concat: the nodes read so far. -/
structure SL (b : Nat) (l : List UInt8) (i : Nat) (w : World) (kids : List NT) (v : Value) (W : World) : Prop where
  pr : PR b l i w W
  row : OR (w.heap.size + 1) 25 6 (KR (FF (fun k => w.heap.size < k) v) W) W kids v
section
variable {b i j : Nat} {l : List UInt8} {w W W' : World} {kids : List NT} {v x : Value} {t : NT}
theorem SL.start (h : PR b l i w W) : SL b l i w [] (.slice none 0 0) W := ⟨h, OR.nil⟩
theorem SL.go (h : SL b l i w kids v W) (k : PQ b l j W W') : SL b l j w kids v W' :=
  ⟨h.pr.go k, h.row.keep (fun m h1 h2 => k.ap.block (by have := h.pr.hb; omega) h2) (fun _ _ hx => KR.go ⟨k.ap.1.size, fun m hm hl => ⟨hm, k.ap.block (by have := h.pr.hb; have := hm.1; omega) hl⟩⟩ _ _ hx)⟩
theorem SL.new (h : SL b l i w kids v W) (hT : NG (fun k => W.heap.size ≤ k) W' t x) : NG (FF (fun k => w.heap.size < k) v) W' t x :=
  NG.go ⟨Nat.le_refl _, fun k hk _ => ⟨⟨Nat.lt_of_lt_of_le h.pr.sz hk, fun e => by have := (h.row.lt e).2; omega⟩, rfl⟩⟩ _ _ hT
theorem SL.push {o : Obj} {g' cap H : Nat} {W5 : World} (h : SL b l i w kids v W) (cs : List Value) (hown : W.ownsRow (w.heap.size + 1) 25 6 v kids.length cs)
    (hpush : ∀ (R' : NT → List Value → Prop) (W' : World) (x : NT) (us : List Value) (v' : Value), (∀ x us, KR (FF (fun k => w.heap.size < k) v) W x us → R' x us) → us.length = 6 → R' x us → kids.length + 1 ≤ 1000000 → W'.ownsRow (w.heap.size + 1) 25 6 v' (kids.length + 1) (cs ++ us) → OR (w.heap.size + 1) 25 6 R' W' (kids ++ [x]) v')
    (hgr : (W.alloc o).grownBy W5 v.ownBlock) (hat : v.ownBlock = some g' ∨ g' = H) (hH : H = (W.alloc o).heap.size) (us : List Value) (hu : us.length = 6) (hx : KR (FF (fun k => w.heap.size < k) v) W t us) (hl : kids.length + 1 ≤ 1000000)
    (ho : W5.ownsRow (w.heap.size + 1) 25 6 (.slice (some ⟨g', 0, none⟩) (kids.length + 1) cap) (kids.length + 1) (cs ++ us)) : SL b l i w (kids ++ [t]) (.slice (some ⟨g', 0, none⟩) (kids.length + 1) cap) W5 := by
  have hB := push_below hgr hown h.pr.sz
  have hst := push_stay (G := fun k => w.heap.size < k) (n := kids.length + 1) (cap := cap) hgr (hat.imp id (fun e => by rw [e, hH]; simp))
  exact ⟨h.pr.far hB, hpush _ _ t us _ (fun _ _ h => KR.go hst _ _ h) hu (KR.go hst _ _ hx) hl ho⟩
theorem SL.rows (h : SL b l i w kids v W) : RW (fun k => w.heap.size + 1 ≤ k) 6 (KR (fun k => w.heap.size + 1 ≤ k) W) W kids v :=
  (h.row.rw (F := fun k => w.heap.size + 1 ≤ k) (fun _ h => h)).go ⟨Nat.le_refl _, fun _ hk _ => ⟨hk, rfl⟩⟩ (fun _ _ h => KR.go ⟨Nat.le_refl _, fun _ hk _ => ⟨hk.1, rfl⟩⟩ _ _ h)
end
/-- What stands one after the other from i to j. -/
inductive Chain (b : Nat) (l : List UInt8) : Nat → List NT → Nat → Prop
  | nil (j : Nat) : Chain b l j [] j
  | cons (i k j v : Nat) (t : NT) (ts : List NT) (hv : Asc.at_ l i = v) (h1 : v < 256) (h2 : v ≠ 124) (h3 : v ≠ 41) (hr : RdC 62 b l i t k) (hc : Chain b l k ts j) : Chain b l i (t :: ts) j
def slLen : Value → Nat
  | .slice _ n _ => n
  | _ => 0

set_option maxHeartbeats 4000000 in
set_option maxRecDepth 1000000 in
theorem concat_any (b : Nat) (l : List UInt8) (i : Nat) (ts : List NT) (j : Nat) (hch : Chain b l i ts j) (hstop : l.length ≤ j ∨ Asc.at_ l j = 124 ∨ Asc.at_ l j = 41) (hts : ts.length ≤ 1000) : RdC 44 b l i (joinT 2 ts) j := by
  intro w h
  have HC := Lib.hid hch
  have HST := Lib.hid hstop
  have HS := Lib.hid (SL.start (PR.start h))
  clear h hch hstop
  obtain ⟨i0, hi, hz0, hz1, hz2⟩ := info_parts infoN
  go_enter Tryz.func44, Tryz.ntmps44
  go_wp2_with fail
  go_loopw [3, 4, 5] (fun v _ _ wr => ∃ (k : Nat) (kids rest : List NT), Hid (kids ++ rest = ts) ∧ kids.length + rest.length ≤ 1000 ∧ slLen v = kids.length ∧ Hid (Chain b l k rest j) ∧ Hid (SL b l k w kids v wr)) (fun v _ _ _ => 1001 - slLen v)
  case atStart => exact ⟨i, [], ts, Lib.hid rfl, by simpa using hts, rfl, HC, HS⟩
  case round =>
    obtain ⟨k, kids, rest, HE, hlen, hsl, HCH, HSL⟩ := hrel
    clear HS HC hts
    have hrow := HSL.out.rows
    obtain ⟨ra, rc, rfl, _⟩ := hrow
    clear hsl
    cases rest with
    | nil =>
      have HKT : Hid (kids = ts) := Lib.hid (by simpa using HE.out)
      cases HCH.out
      rcases HST.out with hst | hst | hst
      ·
        have HN := Lib.hid fun W (hW : PS b l j W) => pnext_end b l j W hW hst
        clear hst
        go_wp2_with fail
        refine (HN.out _ HSL.out.pr.ps).mono ?_
        rintro e w1 ⟨rfl, hq⟩
        have HS1 := Lib.hid (HSL.out.go hq)
        clear hq HSL
        go_wp2_with fail
        refine (join_any 2 kids _ _ (w.heap.size + 1) HS1.out.rows).mono ?_
        rintro e w3 ⟨x, rfl, hT, hb⟩
        have HS3 := Lib.hid (HS1.out.pr.on hb)
        have HT3 := Lib.hid (HKT.out ▸ hT)
        obtain ⟨op, rs, nm, kk, mn, mx, ra2, rc2, a, cc, ht, rfl, _⟩ := hT.open
        clear hT hb ht HS1
        obtain ⟨k0, k1, k2, k3, k4, k5, f0, f1, f2, f3, f4, f5⟩ := bk6 HS3.out.bk
        go_wp2_with fail
        rw [nest6 w3]
        exact node_ret3 (P := 2) rfl HS3.out _ _ rfl (by rfl) HT3.out
      ·
        have HN := Lib.hid fun W (hW : PS b l j W) => pnext_ok b l j W hW 124 hst (by decide)
        clear hst
        go_wp2_with fail
        refine (HN.out _ HSL.out.pr.ps).mono ?_
        rintro e w1 ⟨rfl, hq⟩
        have HS1 := Lib.hid (HSL.out.go hq)
        clear hq HSL
        go_wp2_with fail
        refine (join_any 2 kids _ _ (w.heap.size + 1) HS1.out.rows).mono ?_
        rintro e w3 ⟨x, rfl, hT, hb⟩
        have HS3 := Lib.hid (HS1.out.pr.on hb)
        have HT3 := Lib.hid (HKT.out ▸ hT)
        obtain ⟨op, rs, nm, kk, mn, mx, ra2, rc2, a, cc, ht, rfl, _⟩ := hT.open
        clear hT hb ht HS1
        obtain ⟨k0, k1, k2, k3, k4, k5, f0, f1, f2, f3, f4, f5⟩ := bk6 HS3.out.bk
        go_wp2_with fail
        rw [nest6 w3]
        exact node_ret3 (P := 2) rfl HS3.out _ _ rfl (by rfl) HT3.out
      ·
        have HN := Lib.hid fun W (hW : PS b l j W) => pnext_ok b l j W hW 41 hst (by decide)
        clear hst
        go_wp2_with fail
        refine (HN.out _ HSL.out.pr.ps).mono ?_
        rintro e w1 ⟨rfl, hq⟩
        have HS1 := Lib.hid (HSL.out.go hq)
        clear hq HSL
        go_wp2_with fail
        refine (join_any 2 kids _ _ (w.heap.size + 1) HS1.out.rows).mono ?_
        rintro e w3 ⟨x, rfl, hT, hb⟩
        have HS3 := Lib.hid (HS1.out.pr.on hb)
        have HT3 := Lib.hid (HKT.out ▸ hT)
        obtain ⟨op, rs, nm, kk, mn, mx, ra2, rc2, a, cc, ht, rfl, _⟩ := hT.open
        clear hT hb ht HS1
        obtain ⟨k0, k1, k2, k3, k4, k5, f0, f1, f2, f3, f4, f5⟩ := bk6 HS3.out.bk
        go_wp2_with fail
        rw [nest6 w3]
        exact node_ret3 (P := 2) rfl HS3.out _ _ rfl (by rfl) HT3.out
    | cons t rest =>
      cases HCH.out with
      | cons _ k2 _ vv _ _ hv h1 h2 h3 hr hc =>
      have HR := Lib.hid hr
      have HC2 := Lib.hid hc
      have HN := Lib.hid fun W (hW : PS b l k W) => pnext_ok b l k W hW vv hv h1
      have z1 : ((vv : Int) == 124) = false := by rw [beq_eq_false_iff_ne]; omega
      have z2 : ((vv : Int) == 41) = false := by rw [beq_eq_false_iff_ne]; omega
      clear hr hc hv h2 h3
      go_wp2_with fail
      refine (HN.out _ HSL.out.pr.ps).mono ?_
      rintro e w1 ⟨rfl, hq⟩
      have HS1 := Lib.hid (HSL.out.go hq)
      clear hq HSL
      go_wp2_with fail
      refine (HR.out _ HS1.out.pr.ps).mono ?_
      rintro e w2 ⟨x, rfl, hT, hq⟩
      have HS2 := Lib.hid (HS1.out.go hq)
      have HT2 := Lib.hid (HS1.out.new hT)
      obtain ⟨op, rs, nm, kk, mn, mx, ra2, rc2, a, cc, ht, rfl, _⟩ := hT.open
      clear hq hT ht HS1
      obtain ⟨cs, hown, hpush⟩ := HS2.out.row.cells
      have HPU := Lib.hid hpush
      have HSZ := Lib.hid HS2.out.pr.sz
      clear hpush
      go_wp2_with (at_builtin; refine wpList_append_lies _ rfl _ _ 23 rfl (w.heap.size + 1) 25 i0 (.agg #[.int .i64 0, .slice none 0 0, .string ⟨#[]⟩, .slice none 0 0, .int .i64 0, .int .i64 0]) 6 88 Tryz.underlying23 hi hz0 hz1 hz2 rfl (by decide) _ kids.length cs rfl (hown.alloc _) ⟨w2.heap.size, 0, none⟩ 1 1 [.int .i64 op, .slice ra2 rs.length rc2, .string ⟨nm.toArray⟩, .slice a kk.length cc, .int .i64 mn, .int .i64 mx] rfl rfl (World.news_of_block (heap_alloc_new w2 _)) (node_one _ _ _ _ _ _ _ _ _ _) (by omega) (by unfold maxLen; omega) (by omega) (Nat.le_trans HSZ.out (by simp)) _ rfl ?_; intro g6 cap6 w6 hown6 hgr6 hat6 hlt6; have HS6 := Lib.hid (HS2.out.push cs hown HPU.out hgr6 hat6 rfl _ rfl HT2.out (by omega) hown6); clear hown6 hgr6 hat6 hlt6 hown)
      refine ⟨⟨k2, kids ++ [t], rest, Lib.hid (by rw [List.append_assoc, List.singleton_append]; exact HE.out), by simp; simp at hlen; omega, by simp [slLen], HC2, HS6⟩, by simp [slLen]; simp at hlen; omega⟩
end Go.Proofs.YtphbkompnddflaaGreatDoor

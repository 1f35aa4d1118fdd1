/-
  Joined: LbH, LbI, LbJ, LbK, LbL.
-/
import Derived.Test.YtgcpinnnfoanjaaDoorRlB
import Derived.Test.YtgcpinnnfoanjaaDoorRlK
import Derived.Test.YtgcpinnnfoanjaaDoorDraw
import Derived.Deep.RegionHeld3
/-
  Expand, Compile, Names.
-/
namespace Go.Proofs.YtgcpinnnfoanjaaDoor
open Go.RowKit

theorem expand_any (l : List Lb.Def) (v : Value) (hl40 : l.length ≤ 40) (hls : ∀ i (h : i < l.length), l[i].2.length ≤ 900000) : ∀ N, ExpAt l v N
  | 0 => ExpAt.zero l v
  | N + 1 => ExpAt.succ l v hl40 hls N (expand_any l v hl40 hls N)
/-- What Expand gives. -/
def Lb.runM (l : List Lb.Def) (s : List UInt8) : Lb.Res := Lb.expM l (l.length + 1) s []
theorem Lb.freeN_le (n : Nat) (b : List Nat) : Lb.freeN n b ≤ n := by
  unfold Lb.freeN
  have := List.countP_le_length (p := fun i => decide (i ∉ b)) (l := List.range n)
  simpa using this
theorem Lb.runM_err (l : List Lb.Def) (s : List UInt8) : Lb.runM l s ≠ .error 0 := Lb.expM_err l _ s [] (Nat.lt_succ_of_le (Lb.freeN_le _ _))
/-- Definitions of a size that is walked. -/
def Fit (l : List Lb.Def) : Prop := l.length ≤ 40 ∧ ∀ i (h : i < l.length), l[i].2.length ≤ 900000
set_option maxHeartbeats 4000000 in
set_option maxRecDepth 1000000 in
theorem exp_any (l : List Lb.Def) (v : Value) (hf : Fit l) (s : List UInt8) (w : World) (hk : KM w) (hd : DfAt w l v) (hs : s.length ≤ 900000) :
    Calls Tryd.prog 9 #[v, .string ⟨s.toArray⟩] w fun e w' => e = .returned (expV (Lb.runM l s)) ∧ Below w.heap.size w w' := by
  have hv := (zero_of_info infoBu).1
  have HE := Lib.hid (expand_any l v hf.1 hf.2 (l.length + 1) s [] w hk hd hs (Nat.lt_succ_of_le (Lb.freeN_le _ _)))
  obtain ⟨a, c, rfl, _⟩ := hd
  obtain ⟨R, hR⟩ : ∃ R, Lb.expM l (l.length + 1) s [] = R := ⟨_, rfl⟩
  have HR : Hid (Lb.runM l s = R) := Lib.hid hR
  rw [hR] at HE
  clear hR hk hf
  cases R with
  | ok t =>
    dsimp only [expV] at HE
    go_enter Tryd.func9, Tryd.ntmps9
    go_wp2_with fail
    refine HE.out.mono ?_
    rintro e w1 ⟨rfl, hb⟩
    have HB := Lib.hid hb
    clear hb
    go_wp2_with fail
    go_ret2
    exact ⟨by rw [HR.out]; rfl, HB.out⟩
  | error k =>
    dsimp only [expV] at HE
    go_enter Tryd.func9, Tryd.ntmps9
    go_wp2_with fail
    refine HE.out.mono ?_
    rintro e w1 ⟨rfl, hb⟩
    have HB := Lib.hid hb
    clear hb
    go_wp2_with fail
    go_ret2
    exact ⟨by rw [HR.out]; rfl, HB.out⟩
set_option maxHeartbeats 4000000 in
set_option maxRecDepth 1000000 in
theorem names_none (s : List UInt8) (w : World) (hk : KM w) (hs : s.length ≤ 900000) (hn : Lb.noPM s) :
    Calls Tryd.prog 10 #[.string ⟨s.toArray⟩] w fun e w' => e = .returned (.tuple #[.slice none 0 0, .int .i64 0]) ∧ Below w.heap.size w w' := by
  have HR := Lib.hid (refs_any s w hk hs)
  have hrf := Lb.refs_none hn
  clear hk hn
  go_enter Tryd.func10, Tryd.ntmps10
  go_wp2_with fail
  refine HR.out.mono ?_
  rintro e w1 ⟨hb, hm⟩
  rw [hrf] at hm
  obtain ⟨v, rfl, hor⟩ := hm
  have HB := Lib.hid hb
  obtain ⟨a, c, rfl, _⟩ := hor.rw (F := fun _ => True) (fun _ _ => trivial)
  clear hb hor hrf
  simp only [List.length_nil]
  go_wp2_with fail
  go_loopw [6, 19] (fun ns i wr => ns = .slice none 0 0 ∧ i = .int .i64 0 ∧ Hid (Below w.heap.size w wr)) (fun _ _ _ => 0)
  case atStart => exact ⟨rfl, rfl, HB⟩
  case round =>
    obtain ⟨rfl, rfl, HB2⟩ := hrel
    go_wp2_with fail
    go_ret2
    exact ⟨rfl, HB2.out⟩
/-- A node and a plain result. -/
theorem results_item2 {P : Program} {fn : Func} {p t : Tmp} {ty : TypeId} (h : fn.results = #[.cell p ty, .tmp t]) (tmps : Array Value) (w : World) (g : Nat) (cs : List Value) (d : TypeDesc)
    (hp : tmps.getD p undef = .pointer (some ⟨g, 0, none⟩)) (hc : ∀ j v, cs[j]? = some v → w.cell? ⟨g, j, none⟩ = some v)
    (hu : P.underlying ty = some d) (hd : (match d with | .struct _ | .array _ _ => true | _ => false) = true) (hi : (P.info? ty).map (·.size) = some cs.length) :
    (results fn tmps).run P w = .ok (.tuple #[.agg cs.toArray, tmps.getD t undef]) w := by
  have hl : (loadCells ⟨g, 0, none⟩ cs.length).run P w = .ok cs.toArray w :=
    run_loadCells_list (P := P) w ⟨g, 0, none⟩ cs (fun j v hv => by
      have hadd : (⟨g, 0, none⟩ : Addr).add j = ⟨g, j, none⟩ := by unfold Addr.add; split <;> simp_all
      rw [hadd]
      exact hc j v hv)
  have hv : (loadVar ty ⟨g, 0, none⟩).run P w = .ok (.agg cs.toArray) w := by
    cases hq : P.info? ty with
    | none => simp [hq] at hi
    | some i =>
      have hs : i.size = cs.length := by simpa [hq] using hi
      have hagg : (isAgg ty).run P w = .ok true w := by
        unfold isAgg
        rw [Sem.run_bind, run_underlying hu w]
        cases d <;> simp_all
      simp [loadVar, Sem.run_bind, hagg, sizeOf, typeInfo, hq, hs, hl]
  have hp' : tmps[p]?.getD undef = .pointer (some ⟨g, 0, none⟩) := by simpa using hp
  simp [results, h, hp', asAddr, hv]
theorem bk6v {b : Nat} {op : Int} {ra : Option Addr} {rn rc : Nat} {nm : List UInt8} {a : Option Addr} {n cp : Nat} {mn mx : Int} {W : World} (h : BK b 6 (nE op ra rn rc nm a n cp mn mx) W) : W.cell? ⟨b, 0, none⟩ = some (.int .i64 op) ∧ W.cell? ⟨b, 1, none⟩ = some (.slice ra rn rc) ∧ W.cell? ⟨b, 2, none⟩ = some (.string ⟨nm.toArray⟩) ∧ W.cell? ⟨b, 3, none⟩ = some (.slice a n cp) ∧ W.cell? ⟨b, 4, none⟩ = some (.int .i64 mn) ∧ W.cell? ⟨b, 5, none⟩ = some (.int .i64 mx) :=
  ⟨h.ev 0 (by omega), h.ev 1 (by omega), h.ev 2 (by omega), h.ev 3 (by omega), h.ev 4 (by omega), h.ev 5 (by omega)⟩
/-- A node and an error. -/
def CompP (G : Prop) (w : World) (e : Ending) (w' : World) : Prop := (∃ (op : Int) (ra : Option Addr) (rn rc : Nat) (nm : List UInt8) (ca : Option Addr) (cn cc : Nat) (mn mx : Int) (k : Nat), e = .returned (.tuple #[.agg #[.int .i64 op, .slice ra rn rc, .string ⟨nm.toArray⟩, .slice ca cn cc, .int .i64 mn, .int .i64 mx], .int .i64 (k : Int)]) ∧ (k = 0 → G)) ∧ Below w.heap.size w w'
theorem comp_ret {fn : Func} {P t : Tmp} (hfn : fn.results = #[.cell P 49, .tmp t]) {w W : World} {b : Nat} (hw : w.heap.size ≤ b) {E : Nat → Value} (hS : BK b 6 E W) {tmps : Array Value} (hp : tmps.getD P undef = .pointer (some ⟨b, 0, none⟩)) {op : Int} {ra : Option Addr} {rn rc : Nat} {nm : List UInt8} {ca : Option Addr} {cn cc : Nat} {mn mx : Int} {k : Nat}
    (h1 : tmps.getD t undef = .int .i64 (k : Int)) (hb : Below w.heap.size w W) {G : Prop} (hG : k = 0 → G) : bodyPost Tryd.prog fn (CompP G w) Exit.ret { tmps := tmps, defers := [] } (setL W b [.int .i64 op, .slice ra rn rc, .string ⟨nm.toArray⟩, .slice ca cn cc, .int .i64 mn, .int .i64 mx] 0) := by
  have hc := setL_at (b := b) [.int .i64 op, .slice ra rn rc, .string ⟨nm.toArray⟩, .slice ca cn cc, .int .i64 mn, .int .i64 mx] W 0 (fun j _ hj => ⟨_, hS.ev j (by simpa using hj)⟩)
  refine bodyPost_ret (results_item2 (ty := 49) hfn tmps _ b [.int .i64 op, .slice ra rn rc, .string ⟨nm.toArray⟩, .slice ca cn cc, .int .i64 mn, .int .i64 mx] _ hp (fun j v hv => by have := hc j v hv; rwa [Nat.zero_add] at this) Tryd.underlying49 rfl (by kernel_rfl)) rfl ⟨⟨op, ra, rn, rc, nm, ca, cn, cc, mn, mx, k, by rw [h1], hG⟩, hb.trans (setL_below hw [.int .i64 op, .slice ra rn rc, .string ⟨nm.toArray⟩, .slice ca cn cc, .int .i64 mn, .int .i64 mx] W 0)⟩
set_option maxHeartbeats 8000000 in
set_option maxRecDepth 1000000 in
theorem comp_any (l : List Lb.Def) (v : Value) (hf : Fit l) (s : List UInt8) (w : World) (hk : KM w) (hd : DfAt w l v) (hs : s.length ≤ 900000) :
    Calls Tryd.prog 15 #[v, .string ⟨s.toArray⟩] w (CompP (∃ x, Lb.runM l s = .ok x) w) := by
  have hal := al_below w (.cells #[.int .i64 0, .slice none 0 0, .string ⟨#[]⟩, .slice none 0 0, .int .i64 0, .int .i64 0] 49)
  have HK0 := Lib.hid (nE_new w 0 none 0 0 [] none 0 0 0 0)
  have HKM := Lib.hid (hk.below hal)
  have HB0 := Lib.hid hal
  have HE := Lib.hid (exp_any l v hf s _ (hk.below hal) (hd.later hal) hs)
  have HLT : Hid (w.heap.size < (w.alloc (.cells #[.int .i64 0, .slice none 0 0, .string ⟨#[]⟩, .slice none 0 0, .int .i64 0, .int .i64 0] 49)).heap.size) := Lib.hid (by simp)
  have HNZ := Lib.hid (Lb.runM_err l s)
  have HLE := Lib.hid (fun t (h : Lb.runM l s = .ok t) => Lb.expM_len l _ s [] t h)
  obtain ⟨a, c, rfl, _⟩ := hd
  obtain ⟨R, hR⟩ : ∃ R, Lb.runM l s = R := ⟨_, rfl⟩
  have HR := Lib.hid hR
  rw [hR] at HE HNZ HLE
  rw [hR]
  clear hk hf hR hal
  go_enter Tryd.func15, Tryd.ntmps15
  go_wp2_with fail
  refine HE.out.mono ?_
  rintro e w1 ⟨rfl, hb⟩
  have HB1 := Lib.hid (HB0.out.trans (hb.mono HB0.out.size))
  have HK1 := Lib.hid (HK0.out.on hb HLT.out)
  have HM1 := Lib.hid (HKM.out.below hb)
  have HS1 := Lib.hid (Nat.lt_of_lt_of_le HLT.out hb.size)
  clear hb HE HB0 HK0 HKM HLT
  cases R with
  | error k =>
    have z1 : ((k : Int) == 0) = false := by rw [beq_eq_false_iff_ne]; intro h; exact HNZ.out (by congr 1; omega)
    obtain ⟨k0, k1, k2, k3, k4, k5, f0, f1, f2, f3, f4, f5⟩ := bk6 HK1.out
    dsimp only [expV]
    go_wp2_with fail
    rw [nest6 w1]
    exact comp_ret (P := 4) (nm := []) rfl (Nat.le_refl _) HK1.out (by rfl) (by rfl) HB1.out (fun h => absurd (congrArg (Except.error (α := List UInt8)) h) HNZ.out)
  | ok t =>
    dsimp only [expV]
    have HP := Lib.hid (parse_any t w1 HM1.out.1)
    go_wp2_with fail
    refine HP.out.mono ?_
    rintro e w2 ⟨v, T, rfl, hng, hb, hpar⟩
    have HB2 := Lib.hid (HB1.out.trans (hb.mono HB1.out.size))
    have HK2 := Lib.hid (HK1.out.on hb HS1.out)
    obtain ⟨op, rs, nm, kk, mn, mx, ra, rc, ca, cc, _, rfl, _⟩ := hng.open
    have HS2 := Lib.hid (Nat.lt_of_lt_of_le HS1.out hb.size)
    obtain ⟨E2, hE2⟩ : ∃ E2, (parM t).2.2 = E2 := ⟨_, rfl⟩
    obtain ⟨A2, hA2⟩ : ∃ A2, (parM t).2.1 = A2 := ⟨_, rfl⟩
    rw [hE2, hA2]
    clear hb hng hpar HK1 HB1 HM1 hE2 hA2
    have hal2 := al_below w2 (.cells #[.int .i64 op, .slice ra rs.length rc, .string ⟨nm.toArray⟩, .slice ca kk.length cc, .int .i64 mn, .int .i64 mx] 49)
    have HK3 := Lib.hid (HK2.out.on hal2 HS2.out)
    have HB3 := Lib.hid (HB2.out.trans (hal2.mono HB2.out.size))
    have HN3 := Lib.hid (nE_new w2 op ra rs.length rc nm ca kk.length cc mn mx)
    clear hal2 HK2 HB2
    obtain ⟨k0, k1, k2, k3, k4, k5, f0, f1, f2, f3, f4, f5⟩ := bk6 HK3.out
    obtain ⟨n0, n1, n2, n3, n4, n5⟩ := bk6v HN3.out
    rcases Nat.eq_zero_or_pos E2 with e0 | e0
    · subst e0
      go_wp2_with fail
      rw [nest6]
      exact comp_ret (P := 4) rfl (Nat.le_refl _) HK3.out (by rfl) (k := 0) (by rfl) HB3.out (fun _ => ⟨t, rfl⟩)
    · have z1 : ((E2 : Int) == 0) = false := by rw [beq_eq_false_iff_ne]; omega
      go_wp2_with fail
      rw [nest6]
      exact comp_ret (P := 4) rfl (Nat.le_refl _) HK3.out (by rfl) (by rfl) HB3.out (fun _ => ⟨t, rfl⟩)
end Go.Proofs.YtgcpinnnfoanjaaDoor
/-
  Check.
-/
namespace Go.Proofs.YtgcpinnnfoanjaaDoor
open Go.RowKit

theorem Lb.findM_ex (l : List Lb.Def) {k : Nat} (hk : k < l.length) : ∃ j, Lb.findM l l[k].1 = some j ∧ j ≤ k := by
  cases h : Lb.findM l l[k].1 with
  | none =>
    unfold Lb.findM at h
    rw [List.findIdx?_eq_none_iff] at h
    have := h l[k] (List.getElem_mem hk)
    simp at this
  | some j =>
    refine ⟨j, rfl, ?_⟩
    unfold Lb.findM at h
    rw [List.findIdx?_eq_some_iff_getElem] at h
    obtain ⟨hj, _, hmin⟩ := h
    rcases Nat.lt_or_ge k j with c | c
    · have := hmin k c
      simp at this
    · exact c
/-- What Check gives. -/
def LCheckP (l : List Lb.Def) (w : World) (e : Ending) (w' : World) : Prop := ∃ k : Nat, e = .returned (.int .i64 (k : Int)) ∧ Below w.heap.size w w' ∧ (k = 0 → (∀ i (h : i < l.length), nmB l[i].1 = true ∧ Lb.findM l l[i].1 = some i) ∧ ∀ i (h : i < l.length), ∃ x, Lb.runM l l[i].2 = .ok x)
set_option maxHeartbeats 8000000 in
set_option maxRecDepth 1000000 in
theorem lcheck_any (l : List Lb.Def) (v : Value) (hf : Fit l) (hnl : ∀ i (h : i < l.length), l[i].1.length ≤ 900000) (w : World) (hk : KM w) (hd : DfAt w l v) :
    Calls Tryd.prog 8 #[v] w (LCheckP l w) := by
  have HK := Lib.hid hk
  have HD := Lib.hid hd
  have HF := Lib.hid hf
  have HNL := Lib.hid hnl
  have hl40 := hf.1
  obtain ⟨a, c, rfl, _, hvk⟩ := hd
  have HVK := Lib.hid hvk
  clear hk hf hvk hnl
  go_enter Tryd.func8, Tryd.ntmps8
  go_wp2_with fail
  go_loopw [13] (fun i wr => ∃ k : Nat, i = .int .i64 k ∧ k ≤ l.length ∧ Hid (∀ j (h : j < l.length), j < k → nmB l[j].1 = true ∧ Lb.findM l l[j].1 = some j) ∧ Hid (Below w.heap.size w wr)) (fun i _ => l.length - (intOf i).toNat)
  case atStart => exact ⟨0, rfl, Nat.zero_le _, Lib.hid (fun _ _ h => by omega), Lib.hid (Below.refl _ _)⟩
  case round =>
    obtain ⟨k, rfl, hkl, HN, HB⟩ := hrel
    by_cases hlt : k < l.length
    · obtain ⟨blk, off, rfl, hbl, d0, d1⟩ := HVK.out k hlt
      have e0 := (HB.out.cell (p := ⟨blk, off + k * 2, none⟩) hbl).trans d0
      have e1 := (HB.out.cell (p := ⟨blk, off + k * 2 + 1, none⟩) hbl).trans d1
      have i1 : (k : Int) < (l.length : Int) := by omega
      have i2 : (0 : Int) ≤ (k : Int) := by omega
      have lw := Nat.lt_of_lt_of_le hbl HB.out.size
      have hw1 : IntKind.i64.wrap ((k : Int) + 1) = (k : Int) + 1 := IntWalk.i64_in _ (by omega)
      have z40 : decide ((40 : Int) ≤ (k : Int)) = false := decide_eq_false (by omega)
      have y40 : decide (40 ≤ k) = false := decide_eq_false (by omega)
      obtain ⟨j, hfm, hjk⟩ := Lb.findM_ex l hlt
      have HST : Hid (nmB l[k].1 = true → j = k → ∀ i (h : i < l.length), i < k + 1 → nmB l[i].1 = true ∧ Lb.findM l l[i].1 = some i) := Lib.hid (fun h1 h2 i h hik => by
        by_cases e : i = k
        · subst e
          subst h2
          exact ⟨h1, hfm⟩
        · exact HN.out i h (by omega))
      have hnl := HNL.out k hlt
      obtain ⟨n1, hn1⟩ : ∃ n1, l[k].1 = n1 := ⟨_, rfl⟩
      obtain ⟨s1, hs1⟩ : ∃ s1, l[k].2 = s1 := ⟨_, rfl⟩
      rw [hn1] at e0 hfm HST hnl
      rw [hs1] at e1
      have HB2 := Lib.hid (HB.out.trans ((al_below wr (.cells #[.string ⟨n1.toArray⟩, .string ⟨s1.toArray⟩] 38)).mono HB.out.size))
      have HC : Hid ((wr.alloc (.cells #[.string ⟨n1.toArray⟩, .string ⟨s1.toArray⟩] 38)).heap[wr.heap.size]? = some (.cells #[.string ⟨n1.toArray⟩, .string ⟨s1.toArray⟩] 38 (0, 0))) := Lib.hid (heap_alloc_new wr _)
      clear d0 d1 hn1 hs1
      go_wp2_with fail
      refine (lisname_any n1 _ (HK.out.below HB2.out).1 (by omega)).mono ?_
      rintro e w2 ⟨rfl, rfl⟩
      cases hnb : nmB n1 with
      | false =>
        go_wp2_with fail
        go_ret
        exact ⟨6, rfl, HB2.out, fun h => by cases h⟩
      | true =>
        go_wp2_with fail
        refine (find_any l n1 _ _ (HD.out.later HB2.out)).mono ?_
        rintro e w3 ⟨rfl, hb3⟩
        have HB3 := Lib.hid (HB2.out.trans (hb3.mono HB2.out.size))
        rw [hfm]
        clear hb3 hfm e0 e1
        dsimp only [Option.getD_some, Option.isSome_some]
        by_cases hj : j < k
        · have z1 : decide ((j : Int) < (k : Int)) = true := decide_eq_true (by omega)
          have y1 : decide (j < k) = true := decide_eq_true hj
          go_wp2_with fail
          go_ret
          exact ⟨7, rfl, HB3.out, fun h => by cases h⟩
        · have z1 : decide ((j : Int) < (k : Int)) = false := decide_eq_false (by omega)
          have y1 : decide (j < k) = false := decide_eq_false hj
          have HST2 := Lib.hid (HST.out hnb (by omega))
          clear hnb HST
          go_wp2_with fail
          refine ⟨⟨k + 1, by go_num, by omega, HST2, HB3⟩, by simp [intOf]; omega⟩
    · have z1 : decide ((k : Int) < (l.length : Int)) = false := decide_eq_false (by omega)
      have y1 : decide (k < l.length) = false := decide_eq_false hlt
      obtain rfl : k = l.length := by omega
      have HOK : Hid (∀ i (h : i < l.length), nmB l[i].1 = true ∧ Lb.findM l l[i].1 = some i) := Lib.hid (fun i h => HN.out i h h)
      clear HN
      go_wp2_with fail
      go_loopw [37] (fun i wx => ∃ k : Nat, i = .int .i64 k ∧ k ≤ l.length ∧ Hid (∀ i (h : i < l.length), i < k → ∃ x, Lb.runM l l[i].2 = .ok x) ∧ Hid (Below w.heap.size w wx)) (fun i _ => l.length - (intOf i).toNat)
      case atStart => exact ⟨0, rfl, Nat.zero_le _, Lib.hid (fun _ _ h => by omega), HB⟩
      case round =>
        obtain ⟨k, rfl, hkl, HCS, HB5⟩ := hrel
        clear z1 y1 hlt HB
        by_cases hlt : k < l.length
        · obtain ⟨blk, off, rfl, hbl, d0, d1⟩ := HVK.out k hlt
          have e0 := (HB5.out.cell (p := ⟨blk, off + k * 2, none⟩) hbl).trans d0
          have e1 := (HB5.out.cell (p := ⟨blk, off + k * 2 + 1, none⟩) hbl).trans d1
          have i1 : (k : Int) < (l.length : Int) := by omega
          have i2 : (0 : Int) ≤ (k : Int) := by omega
          have lw := Nat.lt_of_lt_of_le hbl HB5.out.size
          have hw1 : IntKind.i64.wrap ((k : Int) + 1) = (k : Int) + 1 := IntWalk.i64_in _ (by omega)
          have hsl := HF.out.2 k hlt
          have HST : Hid ((∃ x, Lb.runM l l[k].2 = .ok x) → ∀ i (h : i < l.length), i < k + 1 → ∃ x, Lb.runM l l[i].2 = .ok x) := Lib.hid (fun h1 i h hik => by
            by_cases e : i = k
            · subst e
              exact h1
            · exact HCS.out i h (by omega))
          obtain ⟨n1, hn1⟩ : ∃ n1, l[k].1 = n1 := ⟨_, rfl⟩
          obtain ⟨s1, hs1⟩ : ∃ s1, l[k].2 = s1 := ⟨_, rfl⟩
          rw [hn1] at e0
          rw [hs1] at e1 hsl HST
          have HB6 := Lib.hid (HB5.out.trans ((al_below wr (.cells #[.string ⟨n1.toArray⟩, .string ⟨s1.toArray⟩] 38)).mono HB5.out.size))
          clear d0 d1 hn1 hs1
          go_wp2_with fail
          refine (comp_any l _ HF.out s1 _ (HK.out.below HB6.out) (HD.out.later HB6.out) hsl).mono ?_
          rintro e w3 ⟨⟨op, ra, rn, rc, nm, ca, cn, cc, mn, mx, k3, rfl, hG⟩, hb3⟩
          have HGG := Lib.hid hG
          clear hG
          have HB7 := Lib.hid (HB6.out.trans (hb3.mono HB6.out.size))
          clear hb3 e0 e1
          have HB8 := Lib.hid (HB7.out.trans ((al_below w3 (.cells #[.int .i64 op, .slice ra rn rc, .string ⟨nm.toArray⟩, .slice ca cn cc, .int .i64 mn, .int .i64 mx] 49)).mono HB7.out.size))
          rcases Nat.eq_zero_or_pos k3 with e0 | e0
          · subst e0
            have HST2 := Lib.hid (HST.out (HGG.out rfl))
            go_wp2_with fail
            refine ⟨⟨k + 1, by go_num, by omega, HST2, HB8⟩, by simp [intOf]; omega⟩
          · have z1 : ((k3 : Int) == 0) = false := by rw [beq_eq_false_iff_ne]; omega
            go_wp2_with fail
            go_ret
            exact ⟨k3, rfl, HB8.out, fun h => by omega⟩
        · have z1 : decide ((k : Int) < (l.length : Int)) = false := decide_eq_false (by omega)
          have y1 : decide (k < l.length) = false := decide_eq_false hlt
          go_wp2_with fail
          go_ret
          exact ⟨0, rfl, HB5.out, fun _ => ⟨HOK.out, fun i h => HCS.out i h (by omega)⟩⟩
end Go.Proofs.YtgcpinnnfoanjaaDoor
/-
  The source of a definition, drawn.
-/
namespace Go.Proofs.YtgcpinnnfoanjaaDoor
open Go.RowKit

/-- The pieces of a source. -/
def pcs : List (List UInt8) := [[92, 100, 43], [91, 97, 45, 122, 93, 43], [37, 123, 73, 78, 84, 125], [37, 123, 87, 79, 82, 68, 125], [37, 123, 65, 58, 120, 125], [37, 123, 66, 125], [40, 110, 58, 97, 41], [37], [37, 123], [37, 123, 78, 79, 78, 69, 125], [120, 124, 121], [37, 123, 73, 78, 84, 58, 121, 125], [40], [123], [37, 123, 49, 125]]
theorem pcs_ok : ∀ x ∈ pcs, x.length ≤ 8 ∧ x ≠ [] ∧ ∀ c ∈ x, 33 ≤ c.toNat ∧ c.toNat < 127 := by decide
/-- A source as it is drawn. -/
def SrcOk (x : List UInt8) : Prop := x.length ≤ 24 ∧ x ≠ [] ∧ ∀ c ∈ x, 33 ≤ c.toNat ∧ c.toNat < 127
def SourceP (g : Nat) (w : World) (e : Ending) (w' : World) : Prop := ∃ x, SrcOk x ∧ e = .returned (.string ⟨x.toArray⟩) ∧ CodesAt w' g ∧ Apart g w w'
set_option maxHeartbeats 4000000 in
set_option maxRecDepth 1000000 in
theorem source_any (g : Nat) (w : World) (hc : CodesAt w g) : Calls Tryd.prog 7 #[.pointer (some ⟨g, 0, none⟩)] w (SourceP g w) := by
  have HN := Lib.hid (next_any g 3 w hc (by omega) (by omega))
  clear hc
  go_enter Tryd.func7, Tryd.ntmps7
  go_wp2_with fail
  refine HN.out.mono ?_
  rintro e w1 ⟨n, hn, rfl, hca, hap⟩
  have HC := Lib.hid hca
  have HA := Lib.hid hap
  have hw : IntKind.i64.wrap (1 + (n : Int)) = 1 + (n : Int) := IntWalk.i64_in _ (by omega)
  clear hca hap HN
  go_wp2_with fail
  go_loopw [3, 4] (fun s i wr => ∃ (x : List UInt8) (j : Nat), s = .string ⟨x.toArray⟩ ∧ i = .int .i64 j ∧ x.length + 8 * j ≤ 24 ∧ (j = 0 → x ≠ []) ∧ Hid (∀ c ∈ x, 33 ≤ c.toNat ∧ c.toNat < 127) ∧ Hid (CodesAt wr g) ∧ Hid (Apart g w wr)) (fun _ i _ => (intOf i).toNat)
  case atStart => exact ⟨[], n + 1, rfl, by go_num, by simp; omega, fun h => by omega, Lib.hid (fun c h => by cases h), HC, HA⟩
  case round =>
    obtain ⟨x, j, rfl, rfl, hxl, hx0, HX, HC2, HA2⟩ := hrel
    clear HC HA
    cases j with
    | zero =>
      go_wp2_with fail
      go_ret
      exact ⟨x, ⟨by omega, hx0 (by trivial), HX.out⟩, rfl, HC2.out, HA2.out⟩
    | succ j =>
      clear hx0
      have hj0 : (0 : Int) < (j : Int) + 1 := by omega
      have HP := Lib.hid (pickF g wr pcs HC2.out (by decide) (by decide))
      go_wp2_with fail
      refine HP.out.mono ?_
      rintro e w2 ⟨p, hp, rfl, hca, hap⟩
      obtain ⟨hp1, hp2, hp3⟩ := pcs_ok p hp
      have HC3 := Lib.hid hca
      have HA3 := Lib.hid (HA2.out.trans hap)
      have x1 : ByteArray.mk x.toArray ++ ByteArray.mk p.toArray = ⟨(x ++ p).toArray⟩ := ba_app x p
      have HX3 : Hid (∀ c ∈ x ++ p, 33 ≤ c.toNat ∧ c.toNat < 127) := Lib.hid (fun c h => (List.mem_append.1 h).elim (HX.out c) (hp3 c))
      clear hca hap HP hp hp3
      go_wp2_with fail
      refine ⟨⟨x ++ p, j, rfl, by go_num, by rw [List.length_append]; omega, fun _ h => hp2 (List.append_eq_nil_iff.1 h).2, HX3, HC3, HA3⟩, by simp [intOf]⟩
end Go.Proofs.YtgcpinnnfoanjaaDoor
/-
  The definitions, drawn.
-/
namespace Go.Proofs.YtgcpinnnfoanjaaDoor
open Go.RowKit

/-- A definition in memory. -/
def DfR (d : Lb.Def) (us : List Value) : Prop := us = [.string ⟨d.1.toArray⟩, .string ⟨d.2.toArray⟩]
theorem infoDf : (Tryd.prog.info? 38).map (fun i => (i.zero, i.size, i.bytes)) = some (some (.agg #[.string ⟨#[]⟩, .string ⟨#[]⟩]), 2, 32) := by kernel_rfl
/-- Definitions as they are drawn. -/
def GenD (l : List Lb.Def) : Prop := l.length ≤ 4 ∧ ∀ i (h : i < l.length), l[i].1.length ≤ 4 ∧ SrcOk l[i].2
def nmsD : List (List UInt8) := [[73, 78, 84], [87, 79, 82, 68], [65], [66], [67, 49]]
theorem nms_len : ∀ i (h : i < nmsD.length), nmsD[i].length ≤ 4 := by decide
def nmsP : List (List UInt8) := [[73, 78, 84], [49, 120], [], [65, 32, 66]]
theorem nmsP_len : ∀ x ∈ nmsP, x.length ≤ 4 := by decide
theorem GenD.push {l : List Lb.Def} (h : GenD l) {n s : List UInt8} (hl : l.length < 4) (hn : n.length ≤ 4) (hs : SrcOk s) : GenD (l ++ [(n, s)]) := by
  refine ⟨by simp; omega, fun i hi => ?_⟩
  by_cases e : i < l.length
  · rw [List.getElem_append_left e]
    exact h.2 i e
  · rw [List.getElem_append_right (by omega)]
    simp only [List.getElem_singleton]
    exact ⟨hn, hs⟩
theorem one_df (a b : List UInt8) : ∀ u ∈ [Value.string ⟨a.toArray⟩, .string ⟨b.toArray⟩], u.oneCell' = true := by
  intro u hu
  simp only [List.mem_cons, List.not_mem_nil, or_false] at hu
  rcases hu with rfl | rfl <;> rfl
theorem step_append_df {ops : Array Oper} {o : Oper} {a : Act} {K : Act → World → Prop} {Q : Exit → Act → World → Prop} {E : Prop} {w3 : World} {B n : Nat} {v : Value} {cs : List Value} {nm x : List UInt8} (hown3 : w3.ownsRow B 38 2 v n cs) (hb3 : B ≤ w3.heap.size) (hn : n ≤ 1000) (hgd : o.guard = none) (s y : Operand)
    (ho : o.op = .call { callee := .builtin .append, args := #[s, y], argTypes := #[26, 26] }) (hs : a.eval s = v) (hx : a.eval y = .slice (some ⟨w3.heap.size, 0, none⟩) 1 1)
    (h : ∀ g cap w', w'.ownsRow B 38 2 (.slice (some ⟨g, 0, none⟩) (n + 1) cap) (n + 1) (cs ++ [.string ⟨nm.toArray⟩, .string ⟨x.toArray⟩]) → Below B w3 w' → K (a.put o.dst (.slice (some ⟨g, 0, none⟩) (n + 1) cap)) w') :
    if Region.wanted o (yielded ops a.tmps) = true then Oper.wp Tryd.prog o a (w3.alloc (.cells #[.string ⟨nm.toArray⟩, .string ⟨x.toArray⟩] 38)) K Q else E := by
  obtain ⟨i0, hi, hz0, hz1, hz2⟩ := info_parts infoDf
  exact step_append_lies _ hgd s y 26 ho B 38 i0 (.agg #[.string ⟨#[]⟩, .string ⟨#[]⟩]) 2 32 Tryd.underlying26 hi hz0 hz1 hz2 rfl (by decide) v n cs hs (hown3.alloc _) ⟨w3.heap.size, 0, none⟩ 1 1 [.string ⟨nm.toArray⟩, .string ⟨x.toArray⟩] hx rfl (World.news_of_block (heap_alloc_new w3 (.cells #[.string ⟨nm.toArray⟩, .string ⟨x.toArray⟩] 38))) (one_df nm x) (by omega) (by unfold maxLen; omega) (by omega) (by simp; omega) _ rfl
    (fun g cap w' h1 h2 h3 h4 => h g cap w' h1 (push_below h2 hown3 hb3))
/-- What draw gives. -/
def DrawP (g : Nat) (w : World) (e : Ending) (w' : World) : Prop := ∃ l v, GenD l ∧ RW (fun k => w.heap.size ≤ k) 2 DfR w' l v ∧ e = .returned v ∧ CodesAt w' g ∧ Apart g w w'
/-- One of the cells of a row is stored anew. -/
theorem RW.setDf {F : Nat → Prop} {W : World} {l : List Lb.Def} {blk off c : Nat} (h : RW F 2 DfR W l (.slice (some ⟨blk, off, none⟩) l.length c)) {k : Nat} (hk : k < l.length) (j : Nat) (hj : j < 2) (x : List UInt8) :
    RW F 2 DfR (W.setCell ⟨blk, off + k * 2 + j, none⟩ (.string ⟨x.toArray⟩)) (l.set k (if j = 0 then (x, l[k].2) else (l[k].1, x))) (.slice (some ⟨blk, off, none⟩) l.length c) := by
  obtain ⟨a, c', e, hm, hrow⟩ := h
  obtain ⟨b', o', e1, hl, hF, hel⟩ := hrow (by omega)
  subst e1
  injection e with e2 _ e3
  injection e2 with e2
  injection e2 with e4 e5
  subst e3 e4 e5
  refine ⟨_, c, by rw [List.length_set], by rw [List.length_set]; exact hm, fun _ => ⟨blk, off, rfl, by simpa using hl, hF, fun i hi => ?_⟩⟩
  rw [List.length_set] at hi
  obtain ⟨us, hu, hcell, hr⟩ := hel i hi
  unfold DfR at hr
  subst hr
  by_cases e : i = k
  · subst e
    have hj2 : j = 0 ∨ j = 1 := by omega
    rcases hj2 with rfl | rfl
    · refine ⟨[.string ⟨x.toArray⟩, .string ⟨l[i].2.toArray⟩], rfl, fun j' hj' => ?_, by rw [List.getElem_set_self]; rfl⟩
      match j', hj' with
      | 0, _ => exact World.cell?_setCell_same _ _ _ (hcell 0 (by omega))
      | 1, _ =>
        rw [World.cell?_setCell_other _ _ _ _ (by intro h; simp only [Addr.mk.injEq] at h; omega)]
        exact hcell 1 (by omega)
    · refine ⟨[.string ⟨l[i].1.toArray⟩, .string ⟨x.toArray⟩], rfl, fun j' hj' => ?_, by rw [List.getElem_set_self]; rfl⟩
      match j', hj' with
      | 0, _ =>
        rw [World.cell?_setCell_other _ _ _ _ (by intro h; simp only [Addr.mk.injEq] at h; omega)]
        exact hcell 0 (by omega)
      | 1, _ => exact World.cell?_setCell_same _ _ _ (hcell 1 (by omega))
  · refine ⟨_, rfl, fun j' hj' => ?_, by rw [List.getElem_set_ne (fun h => e h.symm)]; rfl⟩
    rw [World.cell?_setCell_other _ _ _ _ (by intro h; simp only [Addr.mk.injEq] at h; omega)]
    exact hcell j' hj'
theorem OR.frz {α : Type} {B : Nat} {e : TypeId} {k : Nat} {R : α → List Value → Prop} {W : World} {xs : List α} {blk off n c : Nat} (h : OR B e k R W xs (.slice (some ⟨blk, off, none⟩) n c)) (i : Nat) : W.frozen? ⟨blk, i, none⟩ = false := by
  obtain ⟨⟨uss, _, _, _, h0 | ⟨g, cap, cur, e1, hB, hg, _⟩⟩, _⟩ := h
  · exact absurd h0.1 (by simp)
  · injection e1 with e1
    injection e1 with e1
    injection e1 with e1
    subst e1
    exact Lib.frozen_of_heap hg i
theorem DfAt.rw {F : Nat → Prop} {w : World} {l : List Lb.Def} {v : Value} (h : RW F 2 DfR w l v) (hl : l.length ≤ 900000) : DfAt w l v := by
  obtain ⟨a, c, e, _, hk⟩ := h
  refine ⟨a, c, e, hl, fun i hi => ?_⟩
  obtain ⟨blk, off, e1, hb, _, hc⟩ := hk (by omega)
  obtain ⟨us, _, hcell, hr⟩ := hc i hi
  unfold DfR at hr
  subst hr
  exact ⟨blk, off, e1, hb, hcell 0 (by omega), hcell 1 (by omega)⟩
theorem stay_apart {g B : Nat} {w w' : World} (h : Apart g w w') (hg : g < B) : Stay (fun k => B ≤ k) (fun k => B ≤ k) w w' := ⟨h.1.size, fun k hk hl => ⟨hk, h.block (by omega) hl⟩⟩
theorem stay_below {B : Nat} {w w' : World} (h : Below w.heap.size w w') : Stay (fun k => B ≤ k) (fun k => B ≤ k) w w' := ⟨h.size, fun k hk hl => ⟨hk, h.block k hl⟩⟩
theorem GenD.name {l : List Lb.Def} (h : GenD l) {k : Nat} (hk : k < l.length) {x : List UInt8} (hx : x.length ≤ 4) : GenD (l.set k (x, l[k].2)) := by
  refine ⟨by rw [List.length_set]; exact h.1, fun i hi => ?_⟩
  have hi2 : i < l.length := by rw [List.length_set] at hi; exact hi
  by_cases e : i = k
  · subst e
    rw [List.getElem_set_self]
    exact ⟨hx, (h.2 i hi2).2⟩
  · rw [List.getElem_set_ne (fun h => e h.symm)]
    exact h.2 i hi2
set_option maxHeartbeats 8000000 in
set_option maxRecDepth 1000000 in
theorem draw_any (g : Nat) (w : World) (hc : CodesAt w g) : Calls Tryd.prog 6 #[.pointer (some ⟨g, 0, none⟩)] w (DrawP g w) := by
  obtain ⟨i0, hi, hz0, hz1, hz2⟩ := info_parts infoDf
  have hgl := hc.1
  have hal := al_below w (.cells (nmsD.map fun f => Value.string ⟨f.toArray⟩).toArray 9)
  have HN := Lib.hid (next_any g 5 (w.alloc (.cells (nmsD.map fun f => Value.string ⟨f.toArray⟩).toArray 9)) (hc.below hal) (by omega) (by omega))
  have HA0 := Lib.hid (Apart.of_below hal hgl)
  have HNM : Hid (∀ i (h : i < nmsD.length), (w.alloc (.cells (nmsD.map fun f => Value.string ⟨f.toArray⟩).toArray 9)).cell? ⟨w.heap.size, i, none⟩ = some (.string ⟨nmsD[i].toArray⟩)) := Lib.hid (fun i h => by simp [go_sem, h])
  have HLT : Hid (w.heap.size < (w.alloc (.cells (nmsD.map fun f => Value.string ⟨f.toArray⟩).toArray 9)).heap.size) := Lib.hid (by simp)
  clear hc hal
  go_enter Tryd.func6, Tryd.ntmps6
  go_wp2_with fail
  refine HN.out.mono ?_
  rintro e w1 ⟨n, hn, rfl, hca, hap⟩
  have HA1 := Lib.hid (HA0.out.trans hap)
  have HNM1 : Hid (∀ i (h : i < nmsD.length), w1.cell? ⟨w.heap.size, i, none⟩ = some (.string ⟨nmsD[i].toArray⟩)) := Lib.hid (fun i h => (hap.cell (p := ⟨w.heap.size, i, none⟩) (by simp only; omega) HLT.out).trans (HNM.out i h))
  have HL1 := Lib.hid (Nat.lt_of_lt_of_le HLT.out hap.1.size)
  have HG1 := Lib.hid (GD.start hca)
  have hg1 : g < w1.heap.size := hca.1
  clear hca hap HN HNM HLT HA0
  go_wp2_with fail
  go_loopw [4, 5] (fun lv i wr => ∃ (l : List Lb.Def) (v : Value) (j : Nat), v = lv ∧ i = .int .i64 j ∧ l.length + j ≤ 4 ∧ Hid (GenD l) ∧ Hid (OR w1.heap.size 38 2 DfR wr l v) ∧ Hid (GD g w1 wr)) (fun _ i _ => (intOf i).toNat)
  case atStart => exact ⟨[], _, n, rfl, rfl, by simp; omega, Lib.hid ⟨by simp, fun i h => by simp at h⟩, Lib.hid OR.nil, HG1⟩
  case round =>
    obtain ⟨l, v, j, rfl, rfl, hlj, HGN, HO, HG⟩ := hrel
    clear HG1
    cases j with
    | zero =>
      have HN6 := Lib.hid (next_any g 6 wr HG.out.codes (by omega) (by omega))
      have HBW : Hid (w.heap.size ≤ w1.heap.size) := Lib.hid (Nat.le_of_lt HL1.out)
      have hll : l.length ≤ 4 := HGN.out.1
      go_wp2_with fail
      refine HN6.out.mono ?_
      rintro e w2 ⟨q, hq, rfl, hca, hap⟩
      have HG2 := Lib.hid (HG.out.go hap hca)
      have HO2 := Lib.hid (HO.out.keep (W' := w2) (fun k hk1 hk2 => hap.2 k (Nat.lt_of_lt_of_le hg1 hk1) hk2) (fun _ _ h => h))
      have HRW2 := Lib.hid (HO2.out.rw (F := fun k => w.heap.size ≤ k) (fun b hb => Nat.le_trans HBW.out hb))
      obtain ⟨va, vc, rfl, _⟩ := HO2.out.rw (F := fun _ => True) (fun _ _ => trivial)
      clear hca hap HN6 HG HO
      have HEND : Hid (DrawP g w (.returned (.slice va l.length vc)) w2) := Lib.hid ⟨l, _, HGN.out, HRW2.out, rfl, HG2.out.codes, HA1.out.trans HG2.out.ap⟩
      by_cases hq5 : q = 5
      · subst hq5
        by_cases hl0 : 0 < l.length
        · have z1 : decide ((0 : Int) < (l.length : Int)) = true := decide_eq_true (by omega)
          have y1 : decide (0 < l.length) = true := decide_eq_true hl0
          have HN7 := Lib.hid (next_any g l.length w2 HG2.out.codes hl0 (by omega))
          obtain ⟨a0, c0, eqv, _, hrows⟩ := HRW2.out
          injection eqv with ea _ ec
          obtain ⟨blk, off, e0, _⟩ := hrows hl0
          obtain rfl : va = some ⟨blk, off, none⟩ := ea.trans e0
          clear ea ec e0 hrows HEND
          go_wp2_with fail
          refine HN7.out.mono ?_
          rintro e w3 ⟨k, hk, rfl, hca, hap⟩
          have HG3 := Lib.hid (HG2.out.go hap hca)
          have HO3 := Lib.hid (HO2.out.keep (W' := w3) (fun k hk1 hk2 => hap.2 k (Nat.lt_of_lt_of_le hg1 hk1) hk2) (fun _ _ h => h))
          have HP := Lib.hid (pickF g w3 nmsP hca (by decide) (by decide))
          clear hca hap HN7 HG2 HO2 HRW2
          have i1 : (k : Int) < (l.length : Int) := by omega
          have i2 : (0 : Int) ≤ (k : Int) := by omega
          go_wp2_with fail
          refine HP.out.mono ?_
          rintro e w4 ⟨x, hx, rfl, hca, hap⟩
          have HX := Lib.hid (nmsP_len x hx)
          have HG4 := Lib.hid (HG3.out.go hap hca)
          have HO4 := Lib.hid (HO3.out.keep (W' := w4) (fun k hk1 hk2 => hap.2 k (Nat.lt_of_lt_of_le hg1 hk1) hk2) (fun _ _ h => h))
          have HRW4 := Lib.hid (HO4.out.rw (F := fun k => w.heap.size ≤ k) (fun b hb => Nat.le_trans HBW.out hb))
          have hf := HO4.out.frz (off + k * 2)
          obtain ⟨hbl1, c0⟩ : w1.heap.size ≤ blk ∧ w4.cell? ⟨blk, off + k * 2, none⟩ = some (.string ⟨l[k].1.toArray⟩) := by
            obtain ⟨_, _, e0, _, hrows⟩ := HO4.out.rw (F := fun k => w1.heap.size ≤ k) (fun b hb => hb)
            obtain ⟨b', o', e1, _, hF, hel⟩ := hrows hl0
            obtain ⟨us, _, hcell, hr⟩ := hel k hk
            subst e1
            injection e0 with e2 _ _
            injection e2 with e2
            injection e2 with e4 e5
            subst e4 e5
            unfold DfR at hr
            subst hr
            exact ⟨hF, hcell 0 (by omega)⟩
          have HRW5 := Lib.hid (HRW4.out.setDf hk 0 (by omega) x)
          rw [if_pos rfl, Nat.add_zero] at HRW5
          have HB5 := Lib.hid ((Below.refl w1.heap.size w4).setCell (p := ⟨blk, off + k * 2, none⟩) hbl1 (.string ⟨x.toArray⟩))
          have HG5 := Lib.hid (HG4.out.on HB5.out)
          clear hca hap HP HG3 HO3 hx
          go_wp2_with fail
          go_ret
          exact ⟨_, _, HGN.out.name hk HX.out, HRW5.out, rfl, HG5.out.codes, HA1.out.trans HG5.out.ap⟩
        · have z1 : decide ((0 : Int) < (l.length : Int)) = false := decide_eq_false (by omega)
          have y1 : decide (0 < l.length) = false := decide_eq_false hl0
          go_wp2_with fail
          go_ret
          exact HEND.out
      · have z1 : ((q : Int) == 5) = false := by rw [beq_eq_false_iff_ne]; omega
        go_wp2_with fail
        go_ret
        exact HEND.out
    | succ j =>
      have hj0 : (0 : Int) < (j : Int) + 1 := by omega
      obtain ⟨nm, hnm⟩ : ∃ nm, nmsD[l.length]'(by show l.length < 5; omega) = nm := ⟨_, rfl⟩
      have hnl : nm.length ≤ 4 := by rw [← hnm]; exact nms_len _ _
      have hcell : wr.cell? ⟨w.heap.size, l.length, none⟩ = some (.string ⟨nm.toArray⟩) := (HG.out.ap.cell (p := ⟨w.heap.size, l.length, none⟩) (by simp only; omega) HL1.out).trans (by rw [← hnm]; exact HNM1.out _ _)
      have hbw : w1.heap.size ≤ wr.heap.size := HG.out.le
      have HB0 : Hid (w.heap.size < w1.heap.size) := HL1
      obtain ⟨cs, hown, hpush⟩ := HO.out.cells
      have HPU := Lib.hid hpush
      obtain ⟨va, vc, rfl⟩ : ∃ a c, v = .slice a l.length c := by obtain ⟨a, c, e, _⟩ := HO.out.rw (F := fun _ => True) (fun _ _ => trivial); exact ⟨a, c, e⟩
      have i1 : (l.length : Int) < 5 := by omega
      have i2 : (0 : Int) ≤ (l.length : Int) := by omega
      have HSA := Lib.hid (source_any g wr.drew HG.out.dr.codes)
      clear hnm hpush
      go_wp2_with fail
      go_region_held3 (fun W' => W'.cell? ⟨w.heap.size, l.length, none⟩ = some (.string ⟨nm.toArray⟩)) (go_keep) (first
        | (go_at_call 7; refine HSA.out.mono ?_; rintro e w3 ⟨x, hx, rfl, hca, hap⟩; have HSO := Lib.hid hx; have HG3 := Lib.hid (HG.out.dr.go hap hca); have hown3 := own_keep hown (W' := w3) (fun k hk1 hk2 => hap.2 k (Nat.lt_of_lt_of_le hg1 hk1) hk2); have hcell3 : w3.cell? ⟨w.heap.size, l.length, none⟩ = some (.string ⟨nm.toArray⟩) := (hap.cell (p := ⟨w.heap.size, l.length, none⟩) (by simp only; omega) (Nat.lt_of_lt_of_le HB0.out hbw)).trans hcell; have hb3 : w1.heap.size ≤ w3.heap.size := HG3.out.le; clear hx hca hap)
        | (refine step_append_df (nm := nm) (x := x) hown3 hb3 (by omega) (by rfl) _ _ (by rfl) (by rfl) (by rfl) ?_; intro g6 cap6 w6 hown6 hbl6; have HW6 := Lib.hid hbl6; have HO6 := Lib.hid (HPU.out DfR w6 (nm, x) [.string ⟨nm.toArray⟩, .string ⟨x.toArray⟩] _ (fun _ _ h => h) rfl rfl (by omega) hown6); have hcell6 : w6.cell? ⟨w.heap.size, l.length, none⟩ = some (.string ⟨nm.toArray⟩) := (HW6.out.cell (p := ⟨w.heap.size, l.length, none⟩) HB0.out).trans hcell3; clear hown6 hbl6))
      have HG6 := Lib.hid (HG3.out.on HW6.out)
      have HGN6 := Lib.hid (HGN.out.push (by omega) hnl HSO.out)
      go_wp2_with fail
      refine ⟨⟨l ++ [(nm, x)], _, j, rfl, by go_num, by rw [List.length_append, List.length_singleton]; omega, HGN6, HO6, HG6⟩, by simp [intOf]⟩
end Go.Proofs.YtgcpinnnfoanjaaDoor
/-
  The law LibraryStands: its walk.
-/
namespace Go.Proofs.YtgcpinnnfoanjaaDoor
open Go.RowKit

theorem awake_run : Lb.runM [([73, 78, 84], [92, 100, 43])] [37, 123, 73, 78, 84, 58, 110, 125, 109, 115] = .ok [40, 110, 58, 92, 100, 43, 41, 109, 115] := by rfl
theorem df_one : ∀ (x : Lb.Def) (us : List Value), DfR x us → ∀ u ∈ us, u.oneCell' = true := by
  intro x us h
  unfold DfR at h
  subst h
  exact one_df _ _
theorem or_open {B : Nat} {W : World} {l : List Lb.Def} {v : Value} (h : OR B 38 2 DfR W l v) {k : Nat} (hk : k < l.length) :
    ∃ b o c, v = .slice (some ⟨b, o, none⟩) l.length c ∧ B ≤ b ∧ W.cell? ⟨b, o + k * 2 + 1, none⟩ = some (.string ⟨l[k].2.toArray⟩) ∧ W.frozen? ⟨b, o + k * 2 + 1, none⟩ = false := by
  obtain ⟨a, c, rfl, _, hrows⟩ := h.rw (F := fun j => B ≤ j) (fun _ hb => hb)
  obtain ⟨b, o, rfl, _, hF, hel⟩ := hrows (by omega)
  obtain ⟨us, _, hcell, hr⟩ := hel k hk
  unfold DfR at hr
  subst hr
  exact ⟨b, o, c, rfl, hF, hcell 1 (by omega), h.frz _⟩
theorem fit_awake : Fit [([73, 78, 84], [92, 100, 43])] := by
  refine ⟨by decide, fun i hi => ?_⟩
  obtain rfl : i = 0 := by simp at hi; omega
  show 3 ≤ 900000
  decide
set_option maxHeartbeats 4000000 in
set_option maxRecDepth 1000000 in
theorem lawake_any (w : World) (hk : KM w) : Calls Tryd.prog 4 #[] w fun e w' => e = .returned (.bool true) ∧ Below w.heap.size w w' := by
  have hal := al_below w (.cells #[.string ⟨#[73, 78, 84]⟩, .string ⟨#[92, 100, 43]⟩] 38)
  have hd : DfAt (w.alloc (.cells #[.string ⟨#[73, 78, 84]⟩, .string ⟨#[92, 100, 43]⟩] 38)) [([73, 78, 84], [92, 100, 43])] (.slice (some ⟨w.heap.size, 0, none⟩) 1 1) := by
    refine ⟨_, _, rfl, by simp, fun i hi => ⟨w.heap.size, 0, rfl, by simp, ?_⟩⟩
    obtain rfl : i = 0 := by simp at hi; omega
    exact ⟨Lib.cell_of_heap (heap_alloc_new w _) _, Lib.cell_of_heap (heap_alloc_new w _) _⟩
  have HE := Lib.hid (exp_any [([73, 78, 84], [92, 100, 43])] _ fit_awake [37, 123, 73, 78, 84, 58, 110, 125, 109, 115] _ (hk.below hal) hd (by simp))
  rw [awake_run] at HE
  have HB := Lib.hid hal
  clear hal hd hk
  dsimp only [expV] at HE
  go_enter Tryd.func4, Tryd.ntmps4
  go_wp2_with fail
  refine HE.out.mono ?_
  rintro e w1 ⟨rfl, hb⟩
  have HB1 := Lib.hid (HB.out.trans (hb.mono HB.out.size))
  clear hb
  go_wp2_with fail
  go_ret
  exact ⟨rfl, HB1.out⟩
theorem GenD.fit {l : List Lb.Def} (h : GenD l) : Fit l := ⟨by have := h.1; omega, fun i hi => by have := (h.2 i hi).2.1; omega⟩
theorem GenD.nm {l : List Lb.Def} (h : GenD l) : ∀ i (h : i < l.length), l[i].1.length ≤ 900000 := fun i hi => by have := (h.2 i hi).1; omega
theorem Lb.setSrc_at {l : List Lb.Def} {k : Nat} (hk : k < l.length) (x : List UInt8) : Lb.setSrc l k x = l.set k (l[k].1, x) := by
  unfold Lb.setSrc
  rw [List.getElem?_eq_getElem hk]
theorem Lb.runM_set {l : List Lb.Def} {k : Nat} (hk : k < l.length) {x s t : List UInt8} (hx : Lb.runM l l[k].2 = .ok x) (ht : Lb.runM l s = .ok t) : Lb.runM (l.set k (l[k].1, x)) s = .ok t := by
  have := Lb.expM_set l k x (l.length + 1) hk (by rw [Lb.srcOf_at l hk]; exact hx) (l.length + 1) s [] t ht
  rw [Lb.setSrc_at hk] at this
  unfold Lb.runM
  rw [List.length_set]
  exact this
theorem Lb.runM_len {l : List Lb.Def} {s t : List UInt8} (h : Lb.runM l s = .ok t) : t.length ≤ 400 := Lb.expM_len l _ s [] t h
theorem Lb.runM_noPM {l : List Lb.Def} {s t : List UInt8} (h : Lb.runM l s = .ok t) : Lb.noPM t := Lb.expM_noPM l _ s [] t h
theorem Lb.runM_twice {l : List Lb.Def} {s t : List UInt8} (h : Lb.runM l s = .ok t) : Lb.runM l t = .ok t := Lb.expM_plain l _ t [] (Lb.runM_noPM h) (Lb.runM_len h)
theorem Fit.set {l : List Lb.Def} (h : Fit l) {k : Nat} (hk : k < l.length) {x : List UInt8} (hx : x.length ≤ 400) : Fit (l.set k (l[k].1, x)) := by
  refine ⟨by rw [List.length_set]; exact h.1, fun i hi => ?_⟩
  have hi2 : i < l.length := by rw [List.length_set] at hi; exact hi
  by_cases e : i = k
  · subst e
    rw [List.getElem_set_self]
    show x.length ≤ 900000
    omega
  · rw [List.getElem_set_ne (fun h => e h.symm)]
    exact h.2 i hi2
set_option maxHeartbeats 16000000 in
set_option maxRecDepth 1000000 in
theorem stands_any (v : Value) (cs : List UInt8) (w : World) (hk : KM w) (hb : BS w v cs) : Calls Tryd.prog 3 #[v] w fun e w' => e = .returned (.bool true) ∧ Below w.heap.size w w' := by
  have HAW := Lib.hid (lawake_any w hk)
  have HK := Lib.hid hk
  have HBS := Lib.hid hb
  obtain ⟨va, vc, rfl, _⟩ := hb
  clear hk
  go_enter Tryd.func3, Tryd.ntmps3
  go_wp2_with fail
  refine HAW.out.mono ?_
  rintro e w1 ⟨rfl, hb1⟩
  have HB1 := Lib.hid hb1
  have HBS1 := Lib.hid (BS.below HBS.out hb1)
  clear hb1 HAW HBS
  go_wp2_with fail
  refine (new_any _ cs 140 w1 HBS1.out (by omega)).mono ?_
  rintro e w2 ⟨rfl, hca, hb2⟩
  have HC2 := Lib.hid hca
  have HB2 := Lib.hid (HB1.out.trans (hb2.mono HB1.out.size))
  have HGW : Hid (w.heap.size ≤ w1.heap.size) := Lib.hid HB1.out.size
  obtain ⟨g, hg⟩ : ∃ g, w1.heap.size = g := ⟨_, rfl⟩
  rw [hg] at HC2 HGW ⊢
  clear hca hb2 hg HBS1 HB1
  go_wp2_with fail
  refine (draw_any g w2 HC2.out).mono ?_
  rintro e w3 ⟨l, lv, hgd, hrw, rfl, hca, hap⟩
  have HGD := Lib.hid hgd
  have HRW3 := Lib.hid hrw
  have HC3 := Lib.hid hca
  have HB3 := Lib.hid (Apart.below HB2.out hap HGW.out)
  have HGL : Hid (g < w2.heap.size) := Lib.hid HC2.out.1
  have hll := hgd.1
  clear hca hgd hap hrw HC2
  go_wp2_with fail
  refine (source_any g w3 HC3.out).mono ?_
  rintro e w4 ⟨s, hso, rfl, hca, hap⟩
  have HSO := Lib.hid hso
  have HC4 := Lib.hid hca
  have HB4 := Lib.hid (Apart.below HB3.out hap HGW.out)
  have HRW4 := Lib.hid (HRW3.out.go (stay_apart hap HGL.out) (fun _ _ h => h))
  have hsl := hso.1
  obtain ⟨la, lc, rfl, _⟩ := HRW4.out
  clear hca hso hap HRW3 HC3 HB3
  go_wp2_with fail
  refine (lcheck_any l _ HGD.out.fit HGD.out.nm w4 (HK.out.below HB4.out) (DfAt.rw HRW4.out (by omega))).mono ?_
  rintro e w5 ⟨k, rfl, hb5, hck⟩
  have HB5 := Lib.hid (HB4.out.trans (hb5.mono HB4.out.size))
  have HC5 := Lib.hid (HC4.out.below hb5)
  have HRW5 := Lib.hid (HRW4.out.go (stay_below hb5) (fun _ _ h => h))
  clear hb5 HRW4 HC4 HB4
  rcases Nat.eq_zero_or_pos k with e0 | e0
  · subst e0
    have HCK := Lib.hid (hck rfl).2
    clear hck
    go_wp2_with fail
    refine (exp_any l _ HGD.out.fit s w5 (HK.out.below HB5.out) (DfAt.rw HRW5.out (by omega)) (by omega)).mono ?_
    rintro e w6 ⟨rfl, hb6⟩
    have HB6 := Lib.hid (HB5.out.trans (hb6.mono HB5.out.size))
    have HC6 := Lib.hid (HC5.out.below hb6)
    have HRW6 := Lib.hid (HRW5.out.go (stay_below hb6) (fun _ _ h => h))
    clear hb6 HRW5 HC5 HB5
    cases hr : Lb.runM l s with
    | error k =>
      have z1 : ((k : Int) == 0) = false := by rw [beq_eq_false_iff_ne]; intro h; exact Lb.runM_err l s (by rw [hr]; congr 1; omega)
      clear hr
      dsimp only [expV]
      go_wp2_with fail
      go_ret
      exact ⟨rfl, HB6.out⟩
    | ok t =>
      have HR := Lib.hid hr
      have htl := Lb.runM_len hr
      have HE7 := Lib.hid (exp_any l _ HGD.out.fit t w6 (HK.out.below HB6.out) (DfAt.rw HRW6.out (by omega)) (by omega))
      rw [Lb.runM_twice hr] at HE7
      clear hr
      dsimp only [expV] at HE7 ⊢
      go_wp2_with fail
      refine HE7.out.mono ?_
      rintro e w7 ⟨rfl, hb7⟩
      have HB7 := Lib.hid (HB6.out.trans (hb7.mono HB6.out.size))
      have HC7 := Lib.hid (HC6.out.below hb7)
      have HRW7 := Lib.hid (HRW6.out.go (stay_below hb7) (fun _ _ h => h))
      clear hb7 HRW6 HC6 HB6 HE7
      go_wp2_with fail
      refine (names_none t w7 (HK.out.below HB7.out) (by omega) (Lb.runM_noPM HR.out)).mono ?_
      rintro e w8 ⟨rfl, hb8⟩
      have HB8 := Lib.hid (HB7.out.trans (hb8.mono HB7.out.size))
      have HC8 := Lib.hid (HC7.out.below hb8)
      have HRW8 := Lib.hid (HRW7.out.go (stay_below hb8) (fun _ _ h => h))
      clear hb8 HRW7 HC7 HB7
      rcases Nat.eq_zero_or_pos l.length with e0 | e0
      · have z1 : ((l.length : Int) == 0) = true := by rw [beq_iff_eq]; omega
        go_wp2_with fail
        go_ret
        exact ⟨rfl, HB8.out⟩
      · have z1 : ((l.length : Int) == 0) = false := by rw [beq_eq_false_iff_ne]; omega
        go_wp2_with fail
        refine (next_any g l.length w8 HC8.out e0 (by omega)).mono ?_
        rintro e w9 ⟨k, hk, rfl, hca, hap⟩
        have HB9 := Lib.hid (Apart.below HB8.out hap HGW.out)
        have HRW9 := Lib.hid (HRW8.out.go (stay_apart hap HGL.out) (fun _ _ h => h))
        obtain ⟨x, hx⟩ := HCK.out k hk
        have HX := Lib.hid hx
        have hxl := Lb.runM_len hx
        clear hca hap HRW8 HC8 HB8 hx
        have i1 : (k : Int) < (l.length : Int) := by omega
        have i2 : (0 : Int) ≤ (k : Int) := by omega
        obtain ⟨a0, c0, eqv, _, hrows⟩ := HRW9.out
        injection eqv with ea _ ec
        obtain ⟨blk, off, e1, hbl, hF, hel⟩ := hrows e0
        obtain rfl : la = some ⟨blk, off, none⟩ := ea.trans e1
        obtain ⟨us, _, hcell, hr⟩ := hel k hk
        unfold DfR at hr
        subst hr
        have d1 : w9.cell? ⟨blk, off + k * 2 + 1, none⟩ = some (.string ⟨l[k].2.toArray⟩) := hcell 1 (by omega)
        have HE10 := Lib.hid (exp_any l _ HGD.out.fit l[k].2 w9 (HK.out.below HB9.out) (DfAt.rw HRW9.out (by omega)) (HGD.out.fit.2 k hk))
        rw [HX.out] at HE10
        have HFI := Lib.hid (HGD.out.fit.set hk hxl)
        have HRS := Lib.hid (Lb.runM_set hk HX.out HR.out)
        obtain ⟨sk, hsk⟩ : ∃ sk, l[k].2 = sk := ⟨_, rfl⟩
        rw [hsk] at d1 HE10
        clear ea ec e1 hrows hel hcell hsk
        dsimp only [expV] at HE10
        go_wp2_with fail
        refine HE10.out.mono ?_
        rintro e w10 ⟨rfl, hb10⟩
        have HB10 := Lib.hid (HB9.out.trans (hb10.mono HB9.out.size))
        have HRW10 := Lib.hid (HRW9.out.go (stay_below hb10) (fun _ _ h => h))
        clear hb10 HRW9 HB9 HE10 d1
        go_wp2_with (at_builtin; refine wpList_append_row rfl _ _ 26 38 (.agg #[.string ⟨#[]⟩, .string ⟨#[]⟩]) 2 32 rfl Tryd.underlying26 infoDf rfl (by decide) w10.heap.size rfl rfl HRW10.out df_one (by decide) (Nat.le_refl _) ?_; intro v' w11 hor11 hgr11; have HO11 := Lib.hid hor11; have HB11 := Lib.hid (HB10.out.trans ((((Below.refl w10.heap.size w10).grown hgr11 (Nat.le_refl _) (fun k hk => by cases hk))).mono HB10.out.size)); clear hor11 hgr11; obtain ⟨b2, o2, c2, rfl, hb2, d2, f2⟩ := or_open HO11.out hk)
        have HRW11 := Lib.hid (HO11.out.rw (F := fun _ => True) (fun _ _ => trivial))
        have HRW12 := Lib.hid (HRW11.out.setDf hk 1 (by omega) x)
        rw [if_neg (by decide)] at HRW12
        have HB12 := Lib.hid (HB11.out.setCell (p := ⟨b2, o2 + k * 2 + 1, none⟩) (Nat.le_trans HB10.out.size hb2) (.string ⟨x.toArray⟩))
        have HE13 := Lib.hid (exp_any (l.set k (l[k].1, x)) _ HFI.out s _ (HK.out.below HB12.out) (DfAt.rw HRW12.out (by rw [List.length_set]; omega)) (by omega))
        rw [HRS.out] at HE13
        clear HRW10 HO11 HRW11 HRW12 HB11 HB10
        dsimp only [expV] at HE13
        go_wp2_with fail
        refine HE13.out.mono ?_
        rintro e w13 ⟨rfl, hb13⟩
        have HB13 := Lib.hid (HB12.out.trans (hb13.mono HB12.out.size))
        clear hb13 HE13 d2 f2
        go_wp2_with fail
        go_ret
        exact ⟨rfl, HB13.out⟩
  · have z1 : ((k : Int) == 0) = false := by rw [beq_eq_false_iff_ne]; omega
    clear hck
    go_wp2_with fail
    go_ret
    exact ⟨rfl, HB5.out⟩
end Go.Proofs.YtgcpinnnfoanjaaDoor

/-
  ParsePairs' walk.
-/
import Derived.Test.YtfdbjgdafolbmaaDoorParQ
namespace Go.Proofs.YtfdbjgdafolbmaaDoor
open Go.RowKit Go.Sort Go.Shelf

theorem fds_ok (vs : List (List UInt8)) : ∀ i (h : i < (fdsOf vs).length), NameOk ((fdsOf vs)[i]).1 := by
  intro i h
  unfold fdsOf at h ⊢
  rw [List.length_zip] at h
  simp only [List.getElem_zip]
  exact pNames_ok i (by omega)
/-- A slice that holds fields. -/
def FS (w : World) (v : Value) (d : List Fd) : Prop := (d = [] ∧ v = .slice none 0 0) ∨ 0 < d.length ∧ ∃ g cap, v = .slice (some ⟨g, 0, none⟩) d.length cap ∧ FAt w g 0 d
theorem pairs_kv (vals : List (List UInt8)) (k : Nat) (ts : List (List UInt8 × Fd)) (w : World) (hk : Kinds w) (h : PR vals k ts) :
    Calls Tryd.prog 11 #[.string ⟨(writ ts).toArray⟩] w fun e w' => ∃ v, e = .returned (.tuple #[v, .int .i64 0]) ∧ FS w' v (srt (vals.take k)) ∧ Below w.heap.size w w' := by
  have hvl : (vals.take k).length = k := by rw [List.length_take]; exact Nat.min_eq_left h.le
  have hv5 : (vals.take k).length ≤ 5 := by rw [hvl]; exact h.five
  have h5 := h.five
  rcases Nat.eq_zero_or_pos k with h0 | h0
  · subst h0
    have e : ts = [] := List.length_eq_zero_iff.1 h.len
    subst e
    exact (keyValue_nil w).mono fun e w' ⟨he, hb⟩ => ⟨_, he, .inl ⟨rfl, rfl⟩, hb⟩
  · have hkv := kv_writ ts h.wr (by rw [h.len]; omega)
    have hwl := writ_len ts h.wr
    rw [h.len] at hwl
    rw [h.fd] at hkv
    have hsz := sortF_srt (vals.take k) hv5
    have hfl := fds_len _ hv5
    have hq := keyValue_right (writ ts) (fdsOf (vals.take k)) w hk (by omega) hkv (by rw [hfl]; omega) (by rw [hfl]; omega) (fds_ok _)
      (by rw [hsz, hfl]; exact srt_dist _ hv5) (by rw [hsz, hfl, List.size_toArray]; exact srt_len _ hv5) (show ∀ (s : List UInt8) (w : World), s.length ≤ 100000 → _ from fun s w _ => trim_left s w)
    refine hq.mono fun e w' ⟨g', c', he, _, hc, hb⟩ => ⟨_, he, .inr ⟨by rw [srt_len _ hv5]; omega, g', c', by rw [hfl, srt_len _ hv5], fun i hi => ?_⟩, hb⟩
    rw [srt_len _ hv5] at hi
    have hc' := hc i (by rw [hfl]; exact hi)
    rw [hsz] at hc'
    have e1 : (srt (vals.take k)).toArray[i]! = (srt (vals.take k))[i]'(by rw [srt_len _ hv5]; exact hi) := by rw [getElem!_pos _ _ (by simp; rw [srt_len _ hv5]; exact hi)]; simp
    rw [e1] at hc'
    rw [Nat.zero_add]
    exact hc'
theorem pairs_same (vs : List (List UInt8)) (v5 v6 : Value) {w w5 w6 : World} (hv : vs.length ≤ 5) (h5 : KI w (srt vs) v5 w5) (hb : Below w5.heap.size w5 w6) (h6 : FS w6 v6 (srt vs)) :
    Calls Tryd.prog 12 #[v6, v5] w6 fun e w' => e = .returned (.bool true) ∧ Below w6.heap.size w6 w' := by
  rcases h6 with ⟨h0, rfl⟩ | ⟨hp, g6, c6, rfl, hf6⟩
  · rw [h0] at h5
    obtain ⟨_, ⟨e, _⟩ | ⟨g, cap, cur, hv, _⟩⟩ := h5.own
    · rw [e]; exact (sameF_nil _ _ _).mono fun e w' ⟨he, hw⟩ => ⟨he, hw ▸ Below.refl _ _⟩
    · rw [hv]; exact (sameF_nil _ _ _).mono fun e w' ⟨he, hw⟩ => ⟨he, hw ▸ Below.refl _ _⟩
  · obtain ⟨_, ⟨e, h0⟩ | ⟨g, cap, cur, hv5, _⟩⟩ := h5.own
    · omega
    · subst hv5
      obtain ⟨a, b, c, _⟩ := h5.at rfl
      exact sameF_any g6 g c6 cap (srt vs) w6 hf6 (fun i hi => ⟨(hb.cell (p := ⟨g, 0 + i * 2, none⟩) a).trans (c i hi).1, (hb.cell (p := ⟨g, 0 + i * 2 + 1, none⟩) a).trans (c i hi).2⟩) (by rw [srt_len _ hv]; omega)

theorem sumL (a b : List UInt8) (h : a.length + b.length ≤ 100000) : ∃ c : List UInt8, (∀ w, (Op.stringOp .add ⟨a.toArray⟩ ⟨b.toArray⟩).run Tryd.prog w = .ok (.string ⟨c.toArray⟩) w) ∧ Hid (c = a ++ b) ∧ c.length ≤ a.length + b.length := by
  refine ⟨a ++ b, fun w => ?_, rfl, by rw [List.length_append]; exact Nat.le_refl _⟩
  exact run_string_add_lists w a b (by omega) (by omega)
def PickPost (w : World) (g nb k : Nat) (out : List Fd) (v : Value) (u : Value) (e : Ending) (w' : World) : Prop :=
  ∃ sp : List UInt8, (sp = [32] ∨ sp = [32, 32]) ∧ e = .returned (.string ⟨sp.toArray⟩) ∧ PI w g nb out v w' ∧ w'.cell? ⟨nb, k, none⟩ = some u
theorem pickW {w wr : World} {g nb k : Nat} {out : List Fd} {v u : Value} (h : Hid (PI w g nb out v wr)) (hg : w.heap.size ≤ g) (hn : g < nb) (hu : wr.cell? ⟨nb, k, none⟩ = some u) :
    Calls Tryd.prog 9 #[.pointer (some ⟨g, 0, none⟩), .slice (some ⟨wr.heap.size, 0, none⟩) 2 2] (wr.alloc (.cells #[.string ⟨#[32]⟩, .string ⟨#[32, 32]⟩] 9)).drew (PickPost w g nb k out v u) := by
  have hb : Below wr.heap.size wr (wr.alloc (.cells #[.string ⟨#[32]⟩, .string ⟨#[32, 32]⟩] 9)).drew := ((Below.refl _ wr).alloc (Nat.le_refl _) _).drew
  have h2 := h.out.later hb
  have hbig := h.out.big
  refine (pickS g wr.heap.size _ h2.codes (by omega) (by simp) (by simp [go_sem]) (by simp [go_sem])).mono fun e w' ⟨sp, hs, he, hc, ha⟩ => ⟨sp, hs, he, h2.apart hg hn ha hc, ?_⟩
  exact (ha.cell (p := ⟨nb, k, none⟩) (by simp; omega) (by simp; omega)).trans ((hb.cell (p := ⟨nb, k, none⟩) hbig).trans hu)

set_option maxRecDepth 100000 in
set_option maxHeartbeats 4000000 in
theorem pairs_any (vc vv : Value) (cs : List UInt8) (vals : List (List UInt8)) (w : World) (hk : Kinds w) (hc : BS w vc cs) (hl : SSI w vv vals) (hlen : vals.length ≤ 9223372036854775807) :
    Calls Tryd.prog 3 #[vc, vv] w fun e w' => e = .returned (.bool true) ∧ Below w.heap.size w w' := by
  have HA := Lib.hid (awake_any w hk)
  have HK := Lib.hid hk
  have HNW := Lib.hid fun w1 hb1 => new_any vc cs 60 w1 (hc.below hb1) (by omega)
  have HL := Lib.hid hl
  obtain ⟨a, cap, rfl, hl⟩ := hl
  have HLC := Lib.hid hl
  clear hk hc hl
  go_enter Tryd.func3, Tryd.ntmps3
  go_wp2_with (go_at_call 7; refine HA.out.mono ?_; rintro e w1 ⟨rfl, hb1⟩)
  refine (HNW.out w1 hb1).mono ?_
  rintro e w2 ⟨rfl, hca, hb2⟩
  have HPS := Lib.hid (PI.start hb1 hb2 hca)
  have hg1 := hb1.size
  have hg2 := hca.1
  obtain ⟨g, hg⟩ : ∃ g, g = w1.heap.size := ⟨_, rfl⟩
  obtain ⟨nb, hnb⟩ : ∃ nb, nb = w2.heap.size := ⟨_, rfl⟩
  rw [← hg] at hg1 hg2 HPS ⊢
  rw [← hnb] at hg2 HPS
  have HGN := Lib.hid hnb
  clear hca hg hnb
  go_wp2_with fail
  rw [← HGN.out]
  go_loopw [7, 8, 24] (fun s v i wr => ∃ (k : Nat) (ts : List (List UInt8 × Fd)), i = .int .i64 k ∧ s = .string ⟨(writ ts).toArray⟩ ∧ PR vals k ts ∧ PI w g nb (fdsOf (vals.take k)) v wr) (fun _ _ i _ => vals.length - (intOf i).toNat)
  case atStart => exact ⟨0, [], rfl, rfl, ⟨by omega, by omega, rfl, rfl, fun t h => by simp at h⟩, HPS.out⟩
  case round =>
    obtain ⟨k, ts, rfl, rfl, hPR, hPI⟩ := hrel
    obtain ⟨v, rfl⟩ : ∃ v, v = u8 := ⟨_, rfl⟩
    have HPI := Lib.hid hPI
    have hk1 := hPR.le
    have hk5 := hPR.five
    clear hPI HPS
    by_cases hlt : k < vals.length
    · obtain ⟨gv, off, rfl, hgv, hcv⟩ := HLC.out (by omega)
      have hcell : wr.cell? ⟨gv, off + k, none⟩ = some (.string ⟨(vals[k]).toArray⟩) := (HPI.out.below.cell (p := ⟨gv, off + k, none⟩) hgv).trans (hcv k hlt)
      clear hcv
      by_cases h5 : k < 5
      · by_cases h60 : (vals[k]).length ≤ 60
        · have t6 : decide (60 < ((vals[k]).length : Int)) = false := by simp; omega
          have HPR := Lib.hid hPR
          have HNX := Lib.hid fun sp hs => hPR.next hlt h5 h60 (sp := sp) hs
          have HFS := Lib.hid (fds_snoc vals k hlt h5)
          have hnm := HPI.out.names k h5
          have HNM := Lib.hid (pNames_wr k h5).2.1
          have hwl := writ_len ts hPR.wr
          have HTL := Lib.hid hPR.len
          have hwl2 : (writ ts).length ≤ 1000 := by have := HTL.out; omega
          clear hPR hwl
          generalize vals[k] = x at *
          obtain ⟨nm, hnme⟩ : ∃ nm, pNames[k]'h5 = nm := ⟨_, rfl⟩
          rw [hnme] at hnm HNM HNX HFS
          have hnl := HNM.out
          clear hnme HNM
          obtain ⟨J, hJ⟩ : ∃ J, writ ts = J := ⟨_, rfl⟩
          rw [hJ] at hwl2 ⊢
          have HJ := Lib.hid hJ
          clear hJ
          go_wp2_with fail
          go_loop [11, 12] (fun q i => ∃ m : Nat, m ≤ x.length ∧ i = .int .i64 m ∧ q = .string ⟨(Asc.esc (x.take m)).toArray⟩) (fun _ i => x.length - (intOf i).toNat)
          case atStart => exact ⟨0, by omega, rfl, rfl⟩
          case round =>
            obtain ⟨m, hm, rfl, rfl⟩ := hrel
            by_cases hml : m < x.length
            · obtain ⟨c, ⟨_, hy⟩, hcc, hc2⟩ := byte_at x m hml
              have HC2 := Lib.hid hcc
              have hex : (ByteArray.mk x.toArray).extract m (m + 1) = ⟨#[x[m]]⟩ := by rw [Asc.extract_seg, Asc.seg_snoc x (Nat.le_refl _) hml, Asc.seg_same]; rfl
              have HQ := Lib.hid (Asc.esc_snoc (x.take m) x[m])
              rw [← Asc.snoc_take x m hml] at HQ
              have hdl : (Asc.esc (x.take m)).length ≤ 120 := by have := Asc.esc_len (x.take m); rw [List.length_take] at this; omega
              clear hcc
              generalize x[m] = b at *
              by_cases e34 : b = 34
              · subst e34
                obtain rfl : c = 34 := by rw [← HC2.out]; rfl
                generalize Asc.esc (x.take m) = D at *
                go_wp2_with fail
                go_round
                case rel => exact ⟨m + 1, by omega, by go_num, by rw [HQ.out, if_pos (.inl rfl), show ([92, 34] : List UInt8) = [92] ++ [34] from rfl, ← List.append_assoc, ← ba_app, ← ba_app]⟩
                case measure => simp [intOf]; omega
              · by_cases e92 : b = 92
                · subst e92
                  obtain rfl : c = 92 := by rw [← HC2.out]; rfl
                  generalize Asc.esc (x.take m) = D at *
                  clear e34
                  go_wp2_with fail
                  go_round
                  case rel => exact ⟨m + 1, by omega, by go_num, by rw [HQ.out, if_pos (.inr rfl), show ([92, 92] : List UInt8) = [92] ++ [92] from rfl, ← List.append_assoc, ← ba_app, ← ba_app]⟩
                  case measure => simp [intOf]; omega
                · have n34 : ((c : Int) == 34) = false := by
                    rw [beq_eq_false_iff_ne]
                    intro e
                    apply e34
                    apply UInt8.toNat_inj.1
                    rw [HC2.out]
                    exact_mod_cast e
                  have n92 : ((c : Int) == 92) = false := by
                    rw [beq_eq_false_iff_ne]
                    intro e
                    apply e92
                    apply UInt8.toNat_inj.1
                    rw [HC2.out]
                    exact_mod_cast e
                  have HQ2 := Lib.hid (HQ.out.trans (by rw [if_neg (fun h => h.elim e34 e92)]))
                  generalize Asc.esc (x.take m) = D at *
                  clear e34 e92 HQ
                  go_wp2_with fail
                  go_round
                  case rel => exact ⟨m + 1, by omega, by go_num, by rw [HQ2.out, ← ba_app]⟩
                  case measure => simp [intOf]; omega
            · obtain rfl : m = x.length := by omega
              have hdl : (Asc.esc x).length ≤ 120 := by have := Asc.esc_len x; omega
              have HE := Lib.hid (show ∀ sp, piece (sp, nm, x) = sp ++ (nm ++ 61 :: 34 :: (Asc.esc x ++ [34])) from fun _ => rfl)
              have ht : x.take x.length = x := List.take_length
              rw [ht]
              clear ht
              generalize Asc.esc x = D at *
              have HBL := Lib.hid HPI.out.big
              go_wp2_with fail
              go_region_held3 (fun W' => W'.cell? ⟨nb, k, none⟩ = some (.string ⟨nm.toArray⟩)) (go_keep) (first | (go_at_call 9; refine (pickW HPI hg1 hg2 hnm).mono ?_; rintro e w3 ⟨sp, hsp, rfl, hpi3, hnm3⟩; have HPI3 := Lib.hid hpi3; have HSP := Lib.hid hsp; have hspl : sp.length ≤ 2 := (Or.elim hsp (fun h => h ▸ (by decide)) (fun h => h ▸ (by decide))); clear hpi3 hsp; obtain ⟨A1, r1, e1, l1⟩ := sumL sp nm (by omega); obtain ⟨A2, r2, e2, l2⟩ := sumL A1 [61, 34] (by simp; omega); obtain ⟨A3, r3, e3, l3⟩ := sumL A2 D (by simp at l2; omega); obtain ⟨A4, r4, e4, l4⟩ := sumL A3 [34] (by simp at l2 ⊢; omega); obtain ⟨A5, r5, e5, l5⟩ := sumL J A4 (by simp at l2 l4; omega)))
              have hown := HPI3.out.own
              have hsz := HPI3.out.big
              have hfl : (fdsOf (vals.take k)).length ≤ 5 := by
                have := HPI3.out.own
                unfold fdsOf
                rw [List.length_zip]
                exact Nat.le_trans (Nat.min_le_left _ _) (by decide)
              have q1 : (fdsOf (vals.take k)).length + 1 ≤ 140737488355328 := by omega
              have q2 : ((fdsOf (vals.take k)).length + 1) * 32 ≤ 140737488355328 := by omega
              clear r1 r2 r3 r4 r5
              go_wp2_with (at_builtin; refine wpList_append_k (ys := [.string ⟨nm.toArray⟩, .string ⟨x.toArray⟩]) rfl _ _ 27 30 (.agg #[.string ⟨#[]⟩, .string ⟨#[]⟩]) 2 32 rfl Tryd.underlying27 infoF rfl (by decide) (nb + 1) _ _ _ rfl hown rfl w3.heap.size rfl rfl (one_encF [(nm, x)]) q1 q2 hsz ?_; intro v' w4 hown' hgrow; have HX2 := Lib.hid (HPI3.out.push hg1 hg2 (nm, x) hown' hgrow); clear hown hown' hgrow)
              refine ⟨⟨k + 1, ts ++ [(sp, nm, x)], by go_num, ?_, HNX.out sp HSP.out, by rw [HFS.out]; exact HX2.out⟩, by simp [intOf]; omega⟩
              rw [writ_snoc, HJ.out, HE.out sp, e5.out, e4.out, e3.out, e2.out, e1.out]
              simp only [List.append_assoc, List.cons_append, List.nil_append]
        · have t6 : decide (60 < ((vals[k]).length : Int)) = true := by simp; omega
          obtain ⟨x, hx⟩ : ∃ x, vals[k] = x := ⟨_, rfl⟩
          rw [hx] at hcell t6
          clear hx h60
          go_wp2_with fail
          have hR := hPR
          have HPR := Lib.hid hPR
          have hvl : (vals.take k).length = k := by rw [List.length_take]; exact Nat.min_eq_left hR.le
          have HVL := Lib.hid hvl
          have hv5 : (vals.take k).length ≤ 5 := by rw [hvl]; exact hR.five
          have HSO := Lib.hid (rsort_any v (fdsOf (vals.take k)) wr HPI.out.fi (by rw [fds_len _ hv5]; omega) (fds_ok _))
          rw [rsort_srt _ hv5] at HSO
          have hb2 := HPI.out.below
          clear hR hvl hPR
          refine HSO.out.mono ?_
          rintro e w5 ⟨v5, rfl, hI5⟩
          have HI5 := Lib.hid hI5
          have hb5 : Below w.heap.size w w5 := hb2.trans (hI5.below.mono hb2.size)
          have HKV := Lib.hid (pairs_kv vals k ts w5 (HK.out.below hb5) HPR.out)
          clear hI5
          go_wp2_with fail
          refine HKV.out.mono ?_
          rintro e w6 ⟨v6, rfl, hs6, hb6⟩
          have HSA := Lib.hid (pairs_same (vals.take k) v5 v6 hv5 HI5.out hb6 hs6)
          have hb7 : Below w.heap.size w w6 := hb5.trans (hb6.mono hb5.size)
          clear hs6
          go_wp2_with fail
          refine HSA.out.mono ?_
          rintro e w7 ⟨rfl, hb8⟩
          go_wp2_with fail
          go_ret
          exact ⟨rfl, hb7.trans (hb8.mono hb7.size)⟩
      · obtain rfl : k = 5 := by omega
        obtain ⟨x, hx⟩ : ∃ x, vals[5] = x := ⟨_, rfl⟩
        rw [hx] at hcell
        clear hx
        have hR := hPR
        have HPR := Lib.hid hPR
        have hvl : (vals.take 5).length = 5 := by rw [List.length_take]; exact Nat.min_eq_left hR.le
        have HVL := Lib.hid hvl
        have hv5 : (vals.take 5).length ≤ 5 := by rw [hvl]; exact hR.five
        have HSO := Lib.hid (rsort_any v (fdsOf (vals.take 5)) wr HPI.out.fi (by rw [fds_len _ hv5]; omega) (fds_ok _))
        rw [rsort_srt _ hv5] at HSO
        have hb2 := HPI.out.below
        clear hR hvl hPR
        go_wp2_with fail
        refine HSO.out.mono ?_
        rintro e w5 ⟨v5, rfl, hI5⟩
        have HI5 := Lib.hid hI5
        have hb5 : Below w.heap.size w w5 := hb2.trans (hI5.below.mono hb2.size)
        have HKV := Lib.hid (pairs_kv vals 5 ts w5 (HK.out.below hb5) HPR.out)
        clear hI5
        go_wp2_with fail
        refine HKV.out.mono ?_
        rintro e w6 ⟨v6, rfl, hs6, hb6⟩
        have HSA := Lib.hid (pairs_same (vals.take 5) v5 v6 hv5 HI5.out hb6 hs6)
        have hb7 : Below w.heap.size w w6 := hb5.trans (hb6.mono hb5.size)
        clear hs6
        go_wp2_with fail
        refine HSA.out.mono ?_
        rintro e w7 ⟨rfl, hb8⟩
        go_wp2_with fail
        go_ret
        exact ⟨rfl, hb7.trans (hb8.mono hb7.size)⟩
    · have hR := hPR
      have HPR := Lib.hid hPR
      have hvl : (vals.take k).length = k := by rw [List.length_take]; exact Nat.min_eq_left hR.le
      have HVL := Lib.hid hvl
      have hv5 : (vals.take k).length ≤ 5 := by rw [hvl]; exact hR.five
      have HSO := Lib.hid (rsort_any v (fdsOf (vals.take k)) wr HPI.out.fi (by rw [fds_len _ hv5]; omega) (fds_ok _))
      rw [rsort_srt _ hv5] at HSO
      have hb2 := HPI.out.below
      clear hR hvl hPR
      go_wp2_with fail
      refine HSO.out.mono ?_
      rintro e w5 ⟨v5, rfl, hI5⟩
      have HI5 := Lib.hid hI5
      have hb5 : Below w.heap.size w w5 := hb2.trans (hI5.below.mono hb2.size)
      have HKV := Lib.hid (pairs_kv vals k ts w5 (HK.out.below hb5) HPR.out)
      clear hI5
      go_wp2_with fail
      refine HKV.out.mono ?_
      rintro e w6 ⟨v6, rfl, hs6, hb6⟩
      have HSA := Lib.hid (pairs_same (vals.take k) v5 v6 hv5 HI5.out hb6 hs6)
      have hb7 : Below w.heap.size w w6 := hb5.trans (hb6.mono hb5.size)
      clear hs6
      go_wp2_with fail
      refine HSA.out.mono ?_
      rintro e w7 ⟨rfl, hb8⟩
      go_wp2_with fail
      go_ret
      exact ⟨rfl, hb7.trans (hb8.mono hb7.size)⟩

end Go.Proofs.YtfdbjgdafolbmaaDoor

/-
  The reference's walk over a node.
-/
import Derived.Test.YtphbkompnddflaaGreatDoorPatK
namespace Go.Proofs.YtphbkompnddflaaGreatDoor
open Go.RowKit

def WalkP (w0 w : World) (B : Nat) (vn : Value) (r : Nat × List (List UInt8) × Nat) (e : Ending) (w' : World) : Prop :=
  ∃ v', e = .returned (.tuple #[.int .i64 r.1, v', .int .i64 r.2.2]) ∧ w'.ownsRow B 9 1 v' r.2.1.length (strCellsL r.2.1) ∧ CF (fun _ => False) vn v' w w' ∧ Below w0.heap.size w0 w'
structure WKS (w0 Wb : World) (B : Nat) (vn : Value) (ns : List (List UInt8)) (v : Value) (W : World) : Prop where
  row : W.ownsRow B 9 1 v ns.length (strCellsL ns)
  cf : CF (fun _ => False) vn v Wb W
  bl : Below w0.heap.size w0 W
  BW : B ≤ W.heap.size
  B0 : w0.heap.size ≤ B
section
variable {w0 Wb W W' : World} {B : Nat} {vn v : Value} {ns : List (List UInt8)}
theorem WKS.below (h : WKS w0 Wb B vn ns v W) (hb : Below W.heap.size W W') : WKS w0 Wb B vn ns v W' :=
  ⟨own_at h.row fun k hk => hb.block k (h.row.lt k hk).2, h.cf.trans (CF.of_below hb), h.bl.trans (hb.mono h.bl.size), Nat.le_trans h.BW hb.size, h.B0⟩
theorem WKS.push {o : Obj} {q cap H : Nat} (h : WKS w0 Wb B vn ns v W) (hgr : (W.alloc o).grownBy W' v.ownBlock) (hat : v.ownBlock = some q ∨ q = H) (hH : (W.alloc o).heap.size = H) (nm : List UInt8)
    (ho : W'.ownsRow B 9 1 (.slice (some ⟨q, 0, none⟩) (ns.length + 1) cap) (ns.length + 1) (strCellsL ns ++ [.string ⟨nm.toArray⟩])) : WKS w0 Wb B vn (ns ++ [nm]) (.slice (some ⟨q, 0, none⟩) (ns.length + 1) cap) W' := by
  refine ⟨?_, h.cf.trans (CF.push hgr hat hH.symm), h.bl.trans (((Below.refl _ W).alloc h.bl.size o).grown hgr (by have := h.bl.size; simp; omega) (fun k hk => by have := (h.row.lt k hk).1; have := h.B0; omega)), Nat.le_trans h.BW (Nat.le_trans (by simp) hgr.size), h.B0⟩
  have : (ns ++ [nm]).length = ns.length + 1 := by simp
  rw [this, show strCellsL (ns ++ [nm]) = strCellsL ns ++ [.string ⟨nm.toArray⟩] by simp [strCellsL]]
  exact ho
theorem WKS.box (h : WKS w0 Wb B vn ns v W) {b n : Nat} {E : Nat → Value} (hbk : BK b n E Wb) (hv : vn.ownBlock ≠ some b) : BK b n E W := hbk.keep (h.cf.keep b hbk.lt (fun h => h) hv) h.cf.size
theorem WKS.call (h : WKS w0 Wb B vn ns v W) {r : Nat × List (List UInt8) × Nat} {v' : Value} (h1 : W'.ownsRow B 9 1 v' r.2.1.length (strCellsL r.2.1)) (h2 : CF (fun _ => False) v v' W W') (h3 : Below w0.heap.size w0 W') : WKS w0 Wb B vn r.2.1 v' W' :=
  ⟨h1, h.cf.trans h2, h3, Nat.le_trans h.BW h2.size, h.B0⟩
end

set_option maxRecDepth 100000 in
set_option maxHeartbeats 16000000 in
theorem walk_aux (N : Nat) : ∀ (t : NT) (v : Value) (w0 w : World) (B d c : Nat) (ns : List (List UInt8)) (vn : Value), SizeOf.sizeOf t < N → NAt w0 t v → Below w0.heap.size w0 w → w0.heap.size ≤ B → B ≤ w.heap.size → w.ownsRow B 9 1 vn ns.length (strCellsL ns) → c ≤ 400 → ns.length ≤ c → d ≤ 21 →
    Calls Tryz.prog 40 #[v, .int .i64 d, .int .i64 c, vn] w (WalkP w0 w B vn (ckN t d c ns)) := by
  induction N with
  | zero => intro t v w0 w B d c ns vn h; omega
  | succ N ih =>
  intro t v w0 w B d c ns vn hN h hB hB0 hBw hrow hc hn hd
  obtain ⟨op, rs, nm, kids, mn, mx, ra, rc, a, cp, rfl, rfl, hr, ⟨hml, hnm⟩, hk⟩ := h.open
  have IH := Lib.hid fun (i : Nat) (hi : i < kids.length) (W : World) (u : Value) (d c : Nat) (ns : List (List UInt8)) (vn : Value) (h1 : NAt w0 kids[i] u) (h2 : Below w0.heap.size w0 W) (h7 : B ≤ W.heap.size) (h3 : W.ownsRow B 9 1 vn ns.length (strCellsL ns)) (h4 : c ≤ 400) (h5 : ns.length ≤ c) (h6 : d ≤ 21) => ih kids[i] u w0 W B d c ns vn (by have := kid_lt (op := op) (rs := rs) (nm := nm) (mn := mn) (mx := mx) i hi; omega) h1 h2 hB0 h7 h3 h4 h5 h6
  have HK := Lib.hid hk
  have HR0 := Lib.hid hr
  have HNM := Lib.hid hnm
  have hal := (Below.refl _ w).alloc (Nat.le_refl _) (.cells #[.int .i64 op, .slice ra rs.length rc, .string ⟨nm.toArray⟩, .slice a kids.length cp, .int .i64 mn, .int .i64 mx] 25)
  have HS0 : Hid (WKS w0 (w.alloc (.cells #[.int .i64 op, .slice ra rs.length rc, .string ⟨nm.toArray⟩, .slice a kids.length cp, .int .i64 mn, .int .i64 mx] 25)) B vn ns vn (w.alloc (.cells #[.int .i64 op, .slice ra rs.length rc, .string ⟨nm.toArray⟩, .slice a kids.length cp, .int .i64 mn, .int .i64 mx] 25))) := Lib.hid ⟨own_at hrow fun k hk => hal.block k (hrow.lt k hk).2, CF.refl _ _ _, hB.trans (hal.mono hB.size), Nat.le_trans hBw hal.size, hB0⟩
  have HCW : Hid (CF (fun _ => False) vn vn w (w.alloc (.cells #[.int .i64 op, .slice ra rs.length rc, .string ⟨nm.toArray⟩, .slice a kids.length cp, .int .i64 mn, .int .i64 mx] 25))) := Lib.hid (CF.of_below hal)
  have HBK := Lib.hid (BK.new w #[.int .i64 op, .slice ra rs.length rc, .string ⟨nm.toArray⟩, .slice a kids.length cp, .int .i64 mn, .int .i64 mx] 25 (nE op ra rs.length rc nm a kids.length cp mn mx) 6 (fun i hi => by
    match i, hi with
    | 0, _ => rfl
    | 1, _ => rfl
    | 2, _ => rfl
    | 3, _ => rfl
    | 4, _ => rfl
    | 5, _ => rfl))
  have HVN : Hid (vn.ownBlock ≠ some w.heap.size) := Lib.hid (fun e => by have := (hrow.lt _ e).2; omega)
  have HSH := Lib.hid (rshape_any op rs nm kids.length mn mx ra rc a cp (w.alloc (.cells #[.int .i64 op, .slice ra rs.length rc, .string ⟨nm.toArray⟩, .slice a kids.length cp, .int .i64 mn, .int .i64 mx] 25)) (hr.later HS0.out.bl) hnm)
  obtain ⟨R, hR⟩ : ∃ R, ckN (.node op rs nm kids mn mx) d c ns = R := ⟨_, rfl⟩
  rw [hR]
  rw [ckN] at hR
  have HR := Lib.hid hR
  clear h hk hr hB ih hN hR hnm hal hrow
  by_cases t1 : 400 < c + 1
  · have HX := Lib.hid (show (c + 1, ns, 4) = R by rw [← HR.out, if_pos t1])
    have z1 : decide ((400 : Int) < (c : Int) + 1) = true := decide_eq_true (by omega)
    go_enter Tryz.func40, Tryz.ntmps40
    go_wp2_with fail
    go_ret3
    exact ⟨vn, by rw [← HX.out]; rfl, by rw [← HX.out]; exact HS0.out.row, HCW.out.trans HS0.out.cf, HS0.out.bl⟩
  · have z1 : decide ((400 : Int) < (c : Int) + 1) = false := decide_eq_false (by omega)
    by_cases t2 : 20 < d
    · have HX := Lib.hid (show (c + 1, ns, 5) = R by rw [← HR.out, if_neg t1, if_pos t2])
      have z2 : decide ((20 : Int) < (d : Int)) = true := decide_eq_true (by omega)
      go_enter Tryz.func40, Tryz.ntmps40
      go_wp2_with fail
      go_ret3
      exact ⟨vn, by rw [← HX.out]; rfl, by rw [← HX.out]; exact HS0.out.row, HCW.out.trans HS0.out.cf, HS0.out.bl⟩
    · have z2 : decide ((20 : Int) < (d : Int)) = false := decide_eq_false (by omega)
      have HR2 := Lib.hid (show (if shE op rs nm kids.length mn mx ≠ 0 then (c + 1, ns, shE op rs nm kids.length mn mx) else ckNs kids (d + 1) (c + 1) (if op = 5 then ns ++ [nm] else ns)) = R by rw [← HR.out, if_neg t1, if_neg t2])
      clear HR
      have t1' : c + 1 ≤ 400 := by omega
      have t2' : d + 1 ≤ 21 := by omega
      clear t1 t2
      obtain ⟨s, hs⟩ : ∃ s, shE op rs nm kids.length mn mx = s := ⟨_, rfl⟩
      rw [hs] at HSH HR2
      clear hs
      by_cases s0 : s = 0
      · subst s0
        by_cases h5 : op = 5
        · have HX := Lib.hid (show ckNs kids (d + 1) (c + 1) (ns ++ [nm]) = R by rw [← HR2.out]; simp [h5])
          have y5 : (op == 5) = true := by rw [beq_iff_eq]; exact h5
          clear h5
          go_enter Tryz.func40, Tryz.ntmps40
          go_wp2_with fail
          refine HSH.out.mono ?_
          rintro e w3 ⟨rfl, hb3⟩
          have HS3 := Lib.hid (HS0.out.below hb3)
          have HB3 := Lib.hid (HS3.out.box HBK.out HVN.out)
          clear hb3
          have k0 : w3.cell? ⟨w.heap.size, 0, none⟩ = some (.int .i64 op) := HB3.out.ev 0 (by omega)
          have k2 : w3.cell? ⟨w.heap.size, 2, none⟩ = some (.string ⟨nm.toArray⟩) := HB3.out.ev 2 (by omega)
          obtain ⟨i0, hi, hz0, hz1, hz2⟩ := info_parts infoStr
          have hown := HS3.out.row
          have hBw3 : B ≤ w3.heap.size := HS3.out.BW
          go_wp2_with (at_builtin; refine wpList_append_lies _ rfl _ _ 43 rfl B 9 i0 (.string ⟨#[]⟩) 1 16 Tryz.underlying43 hi hz0 hz1 hz2 rfl (by decide) vn ns.length (strCellsL ns) rfl (hown.alloc _) ⟨w3.heap.size, 0, none⟩ 1 1 [.string ⟨nm.toArray⟩] rfl rfl (World.news_of_block (heap_alloc_new w3 _)) (str_one nm) (by omega) (by unfold maxLen; omega) (by omega) (Nat.le_trans hBw3 (by simp)) _ rfl ?_; intro g9 cap9 w9 hown9 hgr9 hat9 hlt9; have HS9 := Lib.hid (HS3.out.push hgr9 hat9 rfl nm hown9); clear hown9 hgr9 hat9 hown)
          clear k0 k2
          go_wp2_with fail
          go_loopw [2, 3, 12] (fun cc vv i wr => ∃ (k c2 : Nat) (ns2 : List (List UInt8)) (v2 : Value), i = .int .i64 k ∧ cc = .int .i64 c2 ∧ v2 = vv ∧ k ≤ kids.length ∧ c2 ≤ 400 ∧ ns2.length ≤ c2 ∧ ckNs (kids.drop k) (d + 1) c2 ns2 = R ∧ WKS w0 (w.alloc (.cells #[.int .i64 op, .slice ra rs.length rc, .string ⟨nm.toArray⟩, .slice a kids.length cp, .int .i64 mn, .int .i64 mx] 25)) B vn ns2 v2 wr) (fun _ _ i _ => kids.length - (intOf i).toNat)
          case atStart => exact ⟨0, c + 1, (ns ++ [nm]), _, rfl, rfl, rfl, by omega, by omega, by simp only [List.length_append, List.length_cons, List.length_nil]; omega, HX.out, HS9.out⟩
          case round =>
            obtain ⟨k, c2, ns2, v2, rfl, rfl, rfl, hkl, hc2, hn2, hq, hs2⟩ := hrel
            have HQ := Lib.hid hq
            have HS2 := Lib.hid hs2
            clear hq hs2
            have HBR := Lib.hid (HS2.out.box HBK.out HVN.out)
            have kb3 : wr.cell? ⟨w.heap.size, 3, none⟩ = some (.slice a kids.length cp) := HBR.out.ev 3 (by omega)
            by_cases hlt : k < kids.length
            · obtain ⟨blk, off, op', ra', rn', rc', nm', a', n', c1', mn', mx', rfl, hl, c0, c1, c2x, c3, c4, c5, ht⟩ := HK.out k hlt
              have e0 := (HS2.out.bl.cell (p := ⟨blk, off + k * 6, none⟩) hl).trans c0
              have e1 := (HS2.out.bl.cell (p := ⟨blk, off + k * 6 + 1, none⟩) hl).trans c1
              have e2 := (HS2.out.bl.cell (p := ⟨blk, off + k * 6 + 2, none⟩) hl).trans c2x
              have e3 := (HS2.out.bl.cell (p := ⟨blk, off + k * 6 + 3, none⟩) hl).trans c3
              have e4 := (HS2.out.bl.cell (p := ⟨blk, off + k * 6 + 4, none⟩) hl).trans c4
              have e5 := (HS2.out.bl.cell (p := ⟨blk, off + k * 6 + 5, none⟩) hl).trans c5
              have i1 : (k : Int) < (kids.length : Int) := by omega
              have i2 : (0 : Int) ≤ (k : Int) := by omega
              have hok := ckN_ok _ kids[k] (d + 1) c2 ns2 (Nat.lt_succ_self _) hc2 hn2
              have HI : Hid (Calls Tryz.prog 40 #[.agg #[.int .i64 op', .slice ra' rn' rc', .string ⟨nm'.toArray⟩, .slice a' n' c1', .int .i64 mn', .int .i64 mx'], .int .i64 ((d : Int) + 1), .int .i64 c2, v2] wr (WalkP w0 wr B v2 (ckN kids[k] (d + 1) c2 ns2))) := Lib.hid (IH.out k hlt _ _ (d + 1) c2 ns2 v2 ht HS2.out.bl HS2.out.BW HS2.out.row hc2 hn2 (by omega))
              have HST := Lib.hid (ckNs_step hlt (d + 1) c2 ns2)
              obtain ⟨r, hr⟩ : ∃ r, ckN kids[k] (d + 1) c2 ns2 = r := ⟨_, rfl⟩
              rw [hr] at HI HST hok
              obtain ⟨r1, r2, r3⟩ := r
              simp only at HST
              have HOK := Lib.hid hok
              clear c0 c1 c2x c3 c4 c5 ht hr hok
              by_cases h0 : r3 = 0
              · have HZ := Lib.hid (show ckNs (kids.drop (k + 1)) (d + 1) r1 r2 = R by rw [← HQ.out, HST.out, if_neg (by simpa using h0)])
                have HC1 : Hid (r1 ≤ 400 ∧ r2.length ≤ r1) := Lib.hid ⟨HOK.out.2.2.1 h0, HOK.out.2.1⟩
                subst h0
                go_wp2_with fail
                refine HI.out.mono ?_
                rintro e w4 ⟨v4, rfl, hrow4, hcf4, hb4⟩
                have HS4 := Lib.hid (HS2.out.call hrow4 hcf4 hb4)
                clear hrow4 hcf4 hb4
                go_wp2_with fail
                go_roundw
                case rel => exact ⟨k + 1, r1, r2, v4, by go_num, rfl, rfl, by omega, HC1.out.1, HC1.out.2, HZ.out, HS4.out⟩
                case measure => simp [intOf]; omega
              · have HZ := Lib.hid (show (r1, r2, r3) = R by rw [← HQ.out, HST.out, if_pos (by simpa using h0)])
                have y1 : ((r3 : Int) != 0) = true := by rw [bne_iff_ne]; omega
                go_wp2_with fail
                refine HI.out.mono ?_
                rintro e w4 ⟨v4, rfl, hrow4, hcf4, hb4⟩
                have HS4 := Lib.hid (HS2.out.call hrow4 hcf4 hb4)
                clear hrow4 hcf4 hb4
                go_wp2_with fail
                go_ret3
                exact ⟨v4, by rw [← HZ.out]; rfl, by rw [← HZ.out]; exact HS4.out.row, HCW.out.trans HS4.out.cf, HS4.out.bl⟩
            · obtain rfl : k = kids.length := by omega
              have HZ := Lib.hid (show (c2, ns2, 0) = R by rw [← HQ.out, List.drop_length, ckNs])
              go_wp2_with fail
              go_ret3
              exact ⟨v2, by rw [← HZ.out]; rfl, by rw [← HZ.out]; exact HS2.out.row, HCW.out.trans HS2.out.cf, HS2.out.bl⟩
        · have HX := Lib.hid (show ckNs kids (d + 1) (c + 1) ns = R by rw [← HR2.out]; simp [h5])
          have y5 : (op == 5) = false := by rw [beq_eq_false_iff_ne]; exact h5
          clear h5
          go_enter Tryz.func40, Tryz.ntmps40
          go_wp2_with fail
          refine HSH.out.mono ?_
          rintro e w3 ⟨rfl, hb3⟩
          have HS3 := Lib.hid (HS0.out.below hb3)
          have HB3 := Lib.hid (HS3.out.box HBK.out HVN.out)
          clear hb3
          have k0 : w3.cell? ⟨w.heap.size, 0, none⟩ = some (.int .i64 op) := HB3.out.ev 0 (by omega)
          have k2 : w3.cell? ⟨w.heap.size, 2, none⟩ = some (.string ⟨nm.toArray⟩) := HB3.out.ev 2 (by omega)
          go_wp2_with fail
          go_loopw [2, 3, 12] (fun cc vv i wr => ∃ (k c2 : Nat) (ns2 : List (List UInt8)) (v2 : Value), i = .int .i64 k ∧ cc = .int .i64 c2 ∧ v2 = vv ∧ k ≤ kids.length ∧ c2 ≤ 400 ∧ ns2.length ≤ c2 ∧ ckNs (kids.drop k) (d + 1) c2 ns2 = R ∧ WKS w0 (w.alloc (.cells #[.int .i64 op, .slice ra rs.length rc, .string ⟨nm.toArray⟩, .slice a kids.length cp, .int .i64 mn, .int .i64 mx] 25)) B vn ns2 v2 wr) (fun _ _ i _ => kids.length - (intOf i).toNat)
          case atStart => exact ⟨0, c + 1, ns, _, rfl, rfl, rfl, by omega, by omega, by omega, HX.out, HS3.out⟩
          case round =>
            obtain ⟨k, c2, ns2, v2, rfl, rfl, rfl, hkl, hc2, hn2, hq, hs2⟩ := hrel
            have HQ := Lib.hid hq
            have HS2 := Lib.hid hs2
            clear hq hs2
            have HBR := Lib.hid (HS2.out.box HBK.out HVN.out)
            have kb3 : wr.cell? ⟨w.heap.size, 3, none⟩ = some (.slice a kids.length cp) := HBR.out.ev 3 (by omega)
            by_cases hlt : k < kids.length
            · obtain ⟨blk, off, op', ra', rn', rc', nm', a', n', c1', mn', mx', rfl, hl, c0, c1, c2x, c3, c4, c5, ht⟩ := HK.out k hlt
              have e0 := (HS2.out.bl.cell (p := ⟨blk, off + k * 6, none⟩) hl).trans c0
              have e1 := (HS2.out.bl.cell (p := ⟨blk, off + k * 6 + 1, none⟩) hl).trans c1
              have e2 := (HS2.out.bl.cell (p := ⟨blk, off + k * 6 + 2, none⟩) hl).trans c2x
              have e3 := (HS2.out.bl.cell (p := ⟨blk, off + k * 6 + 3, none⟩) hl).trans c3
              have e4 := (HS2.out.bl.cell (p := ⟨blk, off + k * 6 + 4, none⟩) hl).trans c4
              have e5 := (HS2.out.bl.cell (p := ⟨blk, off + k * 6 + 5, none⟩) hl).trans c5
              have i1 : (k : Int) < (kids.length : Int) := by omega
              have i2 : (0 : Int) ≤ (k : Int) := by omega
              have hok := ckN_ok _ kids[k] (d + 1) c2 ns2 (Nat.lt_succ_self _) hc2 hn2
              have HI : Hid (Calls Tryz.prog 40 #[.agg #[.int .i64 op', .slice ra' rn' rc', .string ⟨nm'.toArray⟩, .slice a' n' c1', .int .i64 mn', .int .i64 mx'], .int .i64 ((d : Int) + 1), .int .i64 c2, v2] wr (WalkP w0 wr B v2 (ckN kids[k] (d + 1) c2 ns2))) := Lib.hid (IH.out k hlt _ _ (d + 1) c2 ns2 v2 ht HS2.out.bl HS2.out.BW HS2.out.row hc2 hn2 (by omega))
              have HST := Lib.hid (ckNs_step hlt (d + 1) c2 ns2)
              obtain ⟨r, hr⟩ : ∃ r, ckN kids[k] (d + 1) c2 ns2 = r := ⟨_, rfl⟩
              rw [hr] at HI HST hok
              obtain ⟨r1, r2, r3⟩ := r
              simp only at HST
              have HOK := Lib.hid hok
              clear c0 c1 c2x c3 c4 c5 ht hr hok
              by_cases h0 : r3 = 0
              · have HZ := Lib.hid (show ckNs (kids.drop (k + 1)) (d + 1) r1 r2 = R by rw [← HQ.out, HST.out, if_neg (by simpa using h0)])
                have HC1 : Hid (r1 ≤ 400 ∧ r2.length ≤ r1) := Lib.hid ⟨HOK.out.2.2.1 h0, HOK.out.2.1⟩
                subst h0
                go_wp2_with fail
                refine HI.out.mono ?_
                rintro e w4 ⟨v4, rfl, hrow4, hcf4, hb4⟩
                have HS4 := Lib.hid (HS2.out.call hrow4 hcf4 hb4)
                clear hrow4 hcf4 hb4
                go_wp2_with fail
                go_roundw
                case rel => exact ⟨k + 1, r1, r2, v4, by go_num, rfl, rfl, by omega, HC1.out.1, HC1.out.2, HZ.out, HS4.out⟩
                case measure => simp [intOf]; omega
              · have HZ := Lib.hid (show (r1, r2, r3) = R by rw [← HQ.out, HST.out, if_pos (by simpa using h0)])
                have y1 : ((r3 : Int) != 0) = true := by rw [bne_iff_ne]; omega
                go_wp2_with fail
                refine HI.out.mono ?_
                rintro e w4 ⟨v4, rfl, hrow4, hcf4, hb4⟩
                have HS4 := Lib.hid (HS2.out.call hrow4 hcf4 hb4)
                clear hrow4 hcf4 hb4
                go_wp2_with fail
                go_ret3
                exact ⟨v4, by rw [← HZ.out]; rfl, by rw [← HZ.out]; exact HS4.out.row, HCW.out.trans HS4.out.cf, HS4.out.bl⟩
            · obtain rfl : k = kids.length := by omega
              have HZ := Lib.hid (show (c2, ns2, 0) = R by rw [← HQ.out, List.drop_length, ckNs])
              go_wp2_with fail
              go_ret3
              exact ⟨v2, by rw [← HZ.out]; rfl, by rw [← HZ.out]; exact HS2.out.row, HCW.out.trans HS2.out.cf, HS2.out.bl⟩
      · have HX := Lib.hid (show (c + 1, ns, s) = R by rw [← HR2.out, if_pos s0])
        have y0 : ((s : Int) != 0) = true := by rw [bne_iff_ne]; omega
        clear s0
        go_enter Tryz.func40, Tryz.ntmps40
        go_wp2_with fail
        refine HSH.out.mono ?_
        rintro e w3 ⟨rfl, hb3⟩
        have HS3 := Lib.hid (HS0.out.below hb3)
        clear hb3
        go_wp2_with fail
        go_ret3
        exact ⟨vn, by rw [← HX.out]; rfl, by rw [← HX.out]; exact HS3.out.row, HCW.out.trans HS3.out.cf, HS3.out.bl⟩

end Go.Proofs.YtphbkompnddflaaGreatDoor

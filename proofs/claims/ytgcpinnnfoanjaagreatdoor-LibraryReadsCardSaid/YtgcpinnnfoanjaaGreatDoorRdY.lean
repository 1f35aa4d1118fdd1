/-
 Joined: ReP, ReQ, ReW, ReY.
-/
import Derived.Test.YtgcpinnnfoanjaaGreatDoorRdX
import Derived.Test.YtgcpinnnfoanjaaGreatDoorRdP
import Derived.BigQuiet
import Derived.Test.YtgcpinnnfoanjaaGreatDoorRdV
namespace Go.Proofs.YtgcpinnnfoanjaaGreatDoor
open Go.RowKit
def RlineP (t : List UInt8) (w : World) (e : Ending) (w' : World) : Prop := e = .returned (.tuple #[.agg #[.string ⟨(t.take (Lb.blk t)).toArray⟩, .string ⟨(Lib.trimS (t.drop (Lb.blk t)) [32, 9]).toArray⟩], .bool (Lb.lineR t).isSome]) ∧ Below w.heap.size w w'
theorem ret_df2 {fn : Func} {p t : Tmp} (hfn : fn.results = #[.cell p 47, .tmp t]) {w : World} {cs : Array Value} {g : Nat} {ty : TypeId} (hg : w.heap[g]? = some (.cells cs ty (0, 0))) (hcs : cs.size = 2) {tmps : Array Value} {df : _} (hdf : df = []) (hp : tmps.getD p undef = .pointer (some ⟨g, 0, none⟩)) {post : Ending → World → Prop}
  (h : post (.returned (.tuple #[.agg cs, tmps.getD t undef])) w) : bodyPost Tryz.prog fn post Exit.ret { tmps := tmps, defers := df } w := by
 have hp' : tmps[p]?.getD undef = .pointer (some ⟨g, 0, none⟩) := by simpa using hp
 obtain ⟨fs, hd⟩ := undDf2
 have hl := run_loadVar_row (P := Tryz.prog) w g ty 47 cs (0, 0) (.struct fs) hg hd rfl (by rw [hcs]; exact infoDf2)
 exact bodyPost_ret (by simp [results, hfn, hp', asAddr, hl]) hdf h
def LnG (q z : Nat) (t1 r2 : List UInt8) (b : Bool) (k : Nat) (v : Value) (W : World) : Prop := match k with
 | 0 => v = .agg #[.string ⟨t1.toArray⟩, .string ⟨r2.toArray⟩]
 | 1 => v = .pointer (some ⟨q, 0, none⟩)
 | 2 => v = .string ⟨t1.toArray⟩
 | 3 => v = .bool b
 | 4 => v = .bool b
 | 5 => b = true → v = .pointer (some ⟨q, 1, none⟩)
 | 6 => b = true → v = .string ⟨r2.toArray⟩
 | 7 => b = true → v = .bool (!r2.isEmpty)
 | 8 => v = .bool (b && !r2.isEmpty)
 | 9 => W.heap[z]? = some (.cells #[.string ⟨t1.toArray⟩, .string ⟨r2.toArray⟩] 47 (0, 0))
 | 10 => v = .bool (b && !r2.isEmpty)
 | _ => True
def LnR (z : Nat) (t1 r2 : List UInt8) (W W' : World) : Prop := W = W' ∨ W'.heap[z]? = some (.cells #[.string ⟨t1.toArray⟩, .string ⟨r2.toArray⟩] 47 (0, 0))
theorem LnG.keep (q z : Nat) (t1 r2 : List UInt8) (b : Bool) : ∀ (k : Nat) (v : Value) (w w' : World), LnR z t1 r2 w w' → LnG q z t1 r2 b k v w → LnG q z t1 r2 b k v w' := by
 intro k v w w' ha hk
 unfold LnG at hk ⊢
 split at hk
 all_goals first
  | exact hk
  | (rcases ha with rfl | h; exact hk; exact h)
def LnI (w : World) (q : Nat) (t1 r2 : List UInt8) (W : World) : Prop := W.heap[q]? = some (.cells #[.string ⟨t1.toArray⟩, .string ⟨r2.toArray⟩] 47 (0, 0)) ∧ (∃ x y : Value, W.heap[w.heap.size]? = some (.cells #[x, y] 47 (0, 0))) ∧ Below w.heap.size w W ∧ w.heap.size < q
theorem LnI.st {w W : World} {q : Nat} {t1 r2 : List UInt8} (h : LnI w q t1 r2 W) (x y : Value) : LnI w q t1 r2 ((W.setCell ⟨w.heap.size, 0, none⟩ x).setCell ⟨w.heap.size, 1, none⟩ y) ∧ ((W.setCell ⟨w.heap.size, 0, none⟩ x).setCell ⟨w.heap.size, 1, none⟩ y).heap[w.heap.size]? = some (.cells #[x, y] 47 (0, 0)) := by
 obtain ⟨h1, ⟨x0, y0, h2⟩, h3, h4⟩ := h
 have hs := st_two (x := x) (y := y) h2
 refine ⟨⟨?_, ⟨x, y, hs⟩, (h3.setCell (p := ⟨w.heap.size, 0, none⟩) (Nat.le_refl _) _).setCell (p := ⟨w.heap.size, 1, none⟩) (Nat.le_refl _) _, h4⟩, hs⟩
 rw [heap_setCell_other _ _ _ _ (by simp only; omega), heap_setCell_other _ _ _ _ (by simp only; omega)]
 exact h1
set_option maxHeartbeats 16000000 in
set_option maxRecDepth 1000000 in
theorem rline_any (t : List UInt8) (w : World) (hs : t.length ≤ 1000000) : Calls Tryz.prog 44 #[.string ⟨t.toArray⟩] w (RlineP t w) := by
 have hal := alb w (.cells #[.string ⟨#[]⟩, .string ⟨#[]⟩] 47)
 have HB0 := Lib.hid hal
 have HH0 := Lib.hid (heap_alloc_new w (.cells #[.string ⟨#[]⟩, .string ⟨#[]⟩] 47))
 have HL0 : Hid (w.heap.size < (w.alloc (.cells #[.string ⟨#[]⟩, .string ⟨#[]⟩] 47)).heap.size) := Lib.hid (by simp)
 clear hal
 go_enter Tryz.func44, Tryz.ntmps44
 go_wp2_with fail
 obtain ⟨w0, hw0⟩ : ∃ w0, w.alloc (.cells #[.string ⟨#[]⟩, .string ⟨#[]⟩] 47) = w0 := ⟨_, rfl⟩
 rw [hw0] at HB0 HH0 HL0 ⊢
 clear hw0
 go_loop [4] (fun i => ∃ k : Nat, k ≤ t.length ∧ i = .int .i64 k ∧ ∀ j (hj : j < t.length), j < k → Asc.sp t[j] = false) (fun i => t.length - (intOf i).toNat)
 case atStart => exact ⟨0, by omega, rfl, fun j _ h => by omega⟩
 case round =>
  obtain ⟨k, hk, rfl, hall⟩ := hrel
  have HA := Lib.hid hall
  clear hall
  have key : (k < t.length ∧ ∃ h : k < t.length, Asc.sp t[k] = false) ∨ (∀ h : k < t.length, Asc.sp t[k] = true) := by
   rcases Nat.lt_or_ge k t.length with c | c
   ·cases e : Asc.sp t[k]
    ·exact .inl ⟨c, c, e⟩
    ·exact .inr fun _ => e
   ·exact .inr fun h => by omega
  rcases key with ⟨hlt, _, hsp⟩ | hno
  ·obtain ⟨c, ⟨_, hx⟩, hc, hc2⟩ := byte_at t k hlt
   have hsc : Asc.isSpace c = false := by rw [← hc]; exact hsp
   have HS := Lib.hid (rspace_any c w0 hc2)
   rw [hsc] at HS
   have HC := Lib.hid hsp
   clear hc hsc hsp
   go_wp2_with (go_at_call 66; refine HS.out.mono ?_; rintro e w' ⟨rfl, rfl⟩)
   go_round
   case rel => exact ⟨k + 1, by omega, by go_num, fun j hj h => by rcases Nat.lt_or_ge j k with c | c; exact HA.out j hj c; (obtain rfl : j = k := by omega); exact HC.out⟩
   case measure => simp [intOf]; omega
  ·have HBK : Hid (Lb.blk t = k) := Lib.hid (by
    unfold Lb.blk
    rcases Nat.lt_or_ge k t.length with c | c
    ·rw [List.findIdx_eq c]
     exact ⟨hno c, fun j hj => HA.out j (by omega) hj⟩
    ·obtain rfl : k = t.length := by omega
     rw [List.findIdx_eq_length]
     intro x hx
     obtain ⟨j, hj, rfl⟩ := List.mem_iff_getElem.1 hx
     exact HA.out j hj hj)
   have HEND : Hid (∀ nm sr b w', t.take k = nm → Lib.trimS (t.drop k) [32, 9] = sr → b = (nmB nm && !(sr == [])) → Below w.heap.size w w' → RlineP t w (.returned (.tuple #[.agg #[.string ⟨nm.toArray⟩, .string ⟨sr.toArray⟩], .bool b])) w') := Lib.hid (by
    intro nm sr b w' h1 h2 h3 h4
    refine ⟨?_, h4⟩
    have e : (Lb.lineR t).isSome = b := by
     rw [h3]
     unfold Lb.lineR
     rw [HBK.out, h1, show Lb.spL = [32, 9] from rfl, h2]
     by_cases hx : nmB nm = true ∧ sr ≠ []
     ·rw [if_pos hx, hx.1]
      simp [hx.2]
     ·rw [if_neg hx]
      cases hnb : nmB nm with
      | false => rfl
      | true =>
       have : sr = [] := Classical.not_not.1 fun h => hx ⟨hnb, h⟩
       simp [this]
    rw [HBK.out, h1, h2, e])
   have x1 : (ByteArray.mk t.toArray).extract 0 k = ⟨(t.take k).toArray⟩ := ext_take t k
   have x2 : (ByteArray.mk t.toArray).extract k t.length = ⟨(t.drop k).toArray⟩ := ext_drop t k
   have i3 : (k : Int) ≤ (t.length : Int) := by omega
   have i4 : (0 : Int) ≤ (k : Int) := by omega
   have hl1 : (t.take k).length ≤ 1000000 := by rw [List.length_take]; omega
   have HTR := Lib.hid (fun W => rtrim_any (t.drop k) W (by rw [List.length_drop]; omega))
   have HN := Lib.hid hno
   obtain ⟨r2, hr2⟩ : ∃ r2, Lib.trimS (t.drop k) [32, 9] = r2 := ⟨_, rfl⟩
   obtain ⟨t1, ht1⟩ : ∃ t1, t.take k = t1 := ⟨_, rfl⟩
   have HE2 := Lib.hid (fun b w' => HEND.out t1 r2 b w' ht1 hr2)
   rw [hr2] at HTR
   rw [ht1] at x1 hl1
   obtain ⟨t2, ht2⟩ : ∃ t2, t.drop k = t2 := ⟨_, rfl⟩
   rw [ht2] at HTR x2
   have HNB := Lib.hid (fun W => rname_any t1 W (by omega))
   clear hr2 ht1 ht2 hno HEND
   by_cases hlt : k < t.length
   ·obtain ⟨c, ⟨_, hx⟩, hc, hc2⟩ := byte_at t k hlt
    have hsc : Asc.isSpace c = true := by rw [← hc]; exact HN.out hlt
    have HS := Lib.hid (rspace_any c w0 hc2)
    rw [hsc] at HS
    clear hc hsc
    go_wp2_with (go_at_call 66; refine HS.out.mono ?_; rintro e w' ⟨rfl, rfl⟩)
    go_region_with (first | (go_at_call 43; refine (HTR.out _).mono ?_; rintro e w3 ⟨rfl, rfl⟩))
    all_goals
     have HI : Hid (LnI w w0.heap.size t1 r2 (w0.alloc (.cells #[.string ⟨t1.toArray⟩, .string ⟨r2.toArray⟩] 47)).drew.drew) := Lib.hid ⟨heap_alloc_new w0 _, ⟨_, _, (heap_alloc_old w0 _ HL0.out).trans HH0.out⟩, (HB0.out.trans ((al_below w0 _).mono HB0.out.size)).drew.drew, HL0.out⟩
     cases hnb : nmB t1 with
     | false =>
      have HNBV := Lib.hid hnb
      rw [hnb] at HNB
      go_upto_region 5 with fail
      refine wp_region_slotsBG (by rfl) (by kernel_rfl) (by kernel_rfl) 36 [] [(2, .pointer (some ⟨w.heap.size, 0, none⟩)), (5, .pointer (some ⟨w0.heap.size, 0, none⟩))] (by kernel_rfl) (LnI w w0.heap.size t1 r2) (LnR w.heap.size t1 r2) (LnG w0.heap.size w.heap.size t1 r2 false) (LnG.keep _ _ _ _ _) (fun _ => .inl rfl) (fun _ => false) ?_ ?_ ?_ ?_ ⟨rfl, rfl, fun s v hs => ?_, HI.out⟩
      case refine_1 =>
       intro i o j want ho hg v W hG
       have hi : i < 11 := (Array.getElem?_eq_some_iff.1 ho).1
       rcases (show i = 0 ∨ i = 1 ∨ i = 2 ∨ i = 3 ∨ i = 4 ∨ i = 5 ∨ i = 6 ∨ i = 7 ∨ i = 8 ∨ i = 9 ∨ i = 10 by omega) with rfl | rfl | rfl | rfl | rfl | rfl | rfl | rfl | rfl | rfl | rfl
       all_goals (obtain rfl := Option.some.inj ho; first | exact absurd (show (none : Option (Nat × Bool)) = some (j, want) from hg) (by simp) | (injection (show some (4, true) = some (j, want) from hg) with hg; injection hg with hg1 hg2; subst hg1 hg2; exact hG))
      case refine_2 =>
       intro i o j want ho hg hne v W
       have hi : i < 11 := (Array.getElem?_eq_some_iff.1 ho).1
       rcases (show i = 0 ∨ i = 1 ∨ i = 2 ∨ i = 3 ∨ i = 4 ∨ i = 5 ∨ i = 6 ∨ i = 7 ∨ i = 8 ∨ i = 9 ∨ i = 10 by omega) with rfl | rfl | rfl | rfl | rfl | rfl | rfl | rfl | rfl | rfl | rfl
       all_goals (obtain rfl := Option.some.inj ho; first | exact absurd (show (none : Option (Nat × Bool)) = some (j, want) from hg) (by simp) | (injection (show some (4, true) = some (j, want) from hg) with hg; injection hg with hg1 hg2; subst hg1 hg2; first | exact absurd rfl hne | (intro h; cases h)))
      case refine_3 =>
       intro i o ho hgo ac W hB hd K hK
       have hi : i < 11 := (Array.getElem?_eq_some_iff.1 ho).1
       have hs2 : ac.tmps.getD 2 undef = .pointer (some ⟨w.heap.size, 0, none⟩) := hB.fixed 2 _ (by simp)
       have hs5 : ac.tmps.getD 5 undef = .pointer (some ⟨w0.heap.size, 0, none⟩) := hB.fixed 5 _ (by simp)
       have HIW := Lib.hid hB.inv
       have HKK := Lib.hid hK
       obtain ⟨hq, ⟨x0, y0, hz⟩, _, _⟩ := HIW.out
       have e0 : W.cell? ⟨w0.heap.size, 0, none⟩ = some (.string ⟨t1.toArray⟩) := Lib.cell_of_heap hq 0
       have e1 : W.cell? ⟨w0.heap.size, 1, none⟩ = some (.string ⟨r2.toArray⟩) := Lib.cell_of_heap hq 1
       have f0 : W.cell? ⟨w.heap.size, 0, none⟩ = some x0 := Lib.cell_of_heap hz 0
       have f1 : W.cell? ⟨w.heap.size, 1, none⟩ = some y0 := Lib.cell_of_heap hz 1
       have g0 : W.frozen? ⟨w.heap.size, 0, none⟩ = false := Lib.frozen_of_heap hz 0
       have g1 : W.frozen? ⟨w.heap.size, 1, none⟩ = false := Lib.frozen_of_heap hz 1
       clear hK hB hq hz
       rcases (show i = 0 ∨ i = 1 ∨ i = 2 ∨ i = 3 ∨ i = 4 ∨ i = 5 ∨ i = 6 ∨ i = 7 ∨ i = 8 ∨ i = 9 ∨ i = 10 by omega) with rfl | rfl | rfl | rfl | rfl | rfl | rfl | rfl | rfl | rfl | rfl
       ·obtain rfl := Option.some.inj ho
        go_simp
        exact HKK.out _ _ (.inl rfl) HIW.out rfl
       ·obtain rfl := Option.some.inj ho
        go_simp
        exact HKK.out _ _ (.inl rfl) HIW.out rfl
       ·obtain rfl := Option.some.inj ho
        have hd1 : ac.tmps.getD 28 undef = .pointer (some ⟨w0.heap.size, 0, none⟩) := hd ⟨1, .data⟩ (by simp) rfl
        go_simp
        exact HKK.out _ _ (.inl rfl) HIW.out rfl
       ·obtain rfl := Option.some.inj ho
        have hd1 : ac.tmps.getD 29 undef = .string ⟨t1.toArray⟩ := hd ⟨2, .data⟩ (by simp) rfl
        go_simp
        refine (HNB.out _).mono ?_
        rintro e w3 ⟨rfl, rfl⟩
        exact HKK.out _ _ (.inl rfl) HIW.out rfl
       ·obtain rfl := Option.some.inj ho
        have hd1 : ac.tmps.getD 30 undef = .bool false := hd ⟨3, .data⟩ (by simp) rfl
        go_simp
        exact HKK.out _ _ (.inl rfl) HIW.out rfl
       ·obtain rfl := Option.some.inj ho
        go_simp
        exact HKK.out _ _ (.inl rfl) HIW.out (fun _ => rfl)
       ·obtain rfl := Option.some.inj ho
        exact absurd (hgo 4 true rfl) (by decide)
       ·obtain rfl := Option.some.inj ho
        exact absurd (hgo 4 true rfl) (by decide)
       ·obtain rfl := Option.some.inj ho
        have hd1 : ac.tmps.getD 31 undef = .bool false := hd ⟨4, .data⟩ (by simp) rfl
        go_simp
        exact HKK.out _ _ (.inl rfl) HIW.out rfl
       ·obtain rfl := Option.some.inj ho
        have hd1 : ac.tmps.getD 27 undef = .agg #[.string ⟨t1.toArray⟩, .string ⟨r2.toArray⟩] := hd ⟨0, .data⟩ (by simp) rfl
        have HST := Lib.hid (HIW.out.st (.string ⟨t1.toArray⟩) (.string ⟨r2.toArray⟩))
        go_simp
        exact HKK.out undef _ (.inr HST.out.2) HST.out.1 HST.out.2
       ·obtain rfl := Option.some.inj ho
        have hd1 : ac.tmps.getD 35 undef = .bool (false && !r2.isEmpty) := hd ⟨8, .data⟩ (by simp) rfl
        go_simp
        exact HKK.out _ _ (.inl rfl) HIW.out rfl
      case refine_4 =>
       intro ac W hB hG
       have h9 : W.heap[w.heap.size]? = some (.cells #[.string ⟨t1.toArray⟩, .string ⟨r2.toArray⟩] 47 (0, 0)) := hG 9 (by decide)
       have h10 : ac.tmps.getD 3 undef = .bool (false && !r2.isEmpty) := hG 10 (by decide)
       have hs2 : ac.tmps.getD 2 undef = .pointer (some ⟨w.heap.size, 0, none⟩) := hB.fixed 2 _ (by simp)
       have hbw := hB.inv.2.2.1
       have hdf := hB.defers
       obtain ⟨tm, df⟩ := ac
       obtain rfl : df = [] := hdf
       have HR9 := Lib.hid (ret_df2 (fn := Tryz.f44) (p := 2) (t := 3) (df := []) rfl h9 rfl rfl hs2 (post := RlineP t w) (by rw [h10]; exact HE2.out _ W (by rw [HNBV.out]; cases r2 <;> rfl) hbw))
       clear hB hG h9 h10 hs2
       go_wp2_with fail
       exact HR9.out
      case refine_5 =>
       simp only [List.mem_cons, List.not_mem_nil, or_false, Prod.mk.injEq] at hs
       rcases hs with ⟨rfl, rfl⟩ | ⟨rfl, rfl⟩ <;> rfl
     | true =>
      have HNBV := Lib.hid hnb
      rw [hnb] at HNB
      go_upto_region 5 with fail
      refine wp_region_slotsBG (by rfl) (by kernel_rfl) (by kernel_rfl) 36 [] [(2, .pointer (some ⟨w.heap.size, 0, none⟩)), (5, .pointer (some ⟨w0.heap.size, 0, none⟩))] (by kernel_rfl) (LnI w w0.heap.size t1 r2) (LnR w.heap.size t1 r2) (LnG w0.heap.size w.heap.size t1 r2 true) (LnG.keep _ _ _ _ _) (fun _ => .inl rfl) (fun _ => true) ?_ ?_ ?_ ?_ ⟨rfl, rfl, fun s v hs => ?_, HI.out⟩
      case refine_1 =>
       intro i o j want ho hg v W hG
       have hi : i < 11 := (Array.getElem?_eq_some_iff.1 ho).1
       rcases (show i = 0 ∨ i = 1 ∨ i = 2 ∨ i = 3 ∨ i = 4 ∨ i = 5 ∨ i = 6 ∨ i = 7 ∨ i = 8 ∨ i = 9 ∨ i = 10 by omega) with rfl | rfl | rfl | rfl | rfl | rfl | rfl | rfl | rfl | rfl | rfl
       all_goals (obtain rfl := Option.some.inj ho; first | exact absurd (show (none : Option (Nat × Bool)) = some (j, want) from hg) (by simp) | (injection (show some (4, true) = some (j, want) from hg) with hg; injection hg with hg1 hg2; subst hg1 hg2; exact hG))
      case refine_2 =>
       intro i o j want ho hg hne v W
       have hi : i < 11 := (Array.getElem?_eq_some_iff.1 ho).1
       rcases (show i = 0 ∨ i = 1 ∨ i = 2 ∨ i = 3 ∨ i = 4 ∨ i = 5 ∨ i = 6 ∨ i = 7 ∨ i = 8 ∨ i = 9 ∨ i = 10 by omega) with rfl | rfl | rfl | rfl | rfl | rfl | rfl | rfl | rfl | rfl | rfl
       all_goals (obtain rfl := Option.some.inj ho; first | exact absurd (show (none : Option (Nat × Bool)) = some (j, want) from hg) (by simp) | (injection (show some (4, true) = some (j, want) from hg) with hg; injection hg with hg1 hg2; subst hg1 hg2; first | exact absurd rfl hne | (intro h; cases h)))
      case refine_3 =>
       intro i o ho hgo ac W hB hd K hK
       have hi : i < 11 := (Array.getElem?_eq_some_iff.1 ho).1
       have hs2 : ac.tmps.getD 2 undef = .pointer (some ⟨w.heap.size, 0, none⟩) := hB.fixed 2 _ (by simp)
       have hs5 : ac.tmps.getD 5 undef = .pointer (some ⟨w0.heap.size, 0, none⟩) := hB.fixed 5 _ (by simp)
       have HIW := Lib.hid hB.inv
       have HKK := Lib.hid hK
       obtain ⟨hq, ⟨x0, y0, hz⟩, _, _⟩ := HIW.out
       have e0 : W.cell? ⟨w0.heap.size, 0, none⟩ = some (.string ⟨t1.toArray⟩) := Lib.cell_of_heap hq 0
       have e1 : W.cell? ⟨w0.heap.size, 1, none⟩ = some (.string ⟨r2.toArray⟩) := Lib.cell_of_heap hq 1
       have f0 : W.cell? ⟨w.heap.size, 0, none⟩ = some x0 := Lib.cell_of_heap hz 0
       have f1 : W.cell? ⟨w.heap.size, 1, none⟩ = some y0 := Lib.cell_of_heap hz 1
       have g0 : W.frozen? ⟨w.heap.size, 0, none⟩ = false := Lib.frozen_of_heap hz 0
       have g1 : W.frozen? ⟨w.heap.size, 1, none⟩ = false := Lib.frozen_of_heap hz 1
       clear hK hB hq hz
       rcases (show i = 0 ∨ i = 1 ∨ i = 2 ∨ i = 3 ∨ i = 4 ∨ i = 5 ∨ i = 6 ∨ i = 7 ∨ i = 8 ∨ i = 9 ∨ i = 10 by omega) with rfl | rfl | rfl | rfl | rfl | rfl | rfl | rfl | rfl | rfl | rfl
       ·obtain rfl := Option.some.inj ho
        go_simp
        exact HKK.out _ _ (.inl rfl) HIW.out rfl
       ·obtain rfl := Option.some.inj ho
        go_simp
        exact HKK.out _ _ (.inl rfl) HIW.out rfl
       ·obtain rfl := Option.some.inj ho
        have hd1 : ac.tmps.getD 28 undef = .pointer (some ⟨w0.heap.size, 0, none⟩) := hd ⟨1, .data⟩ (by simp) rfl
        go_simp
        exact HKK.out _ _ (.inl rfl) HIW.out rfl
       ·obtain rfl := Option.some.inj ho
        have hd1 : ac.tmps.getD 29 undef = .string ⟨t1.toArray⟩ := hd ⟨2, .data⟩ (by simp) rfl
        go_simp
        refine (HNB.out _).mono ?_
        rintro e w3 ⟨rfl, rfl⟩
        exact HKK.out _ _ (.inl rfl) HIW.out rfl
       ·obtain rfl := Option.some.inj ho
        have hd1 : ac.tmps.getD 30 undef = .bool true := hd ⟨3, .data⟩ (by simp) rfl
        go_simp
        exact HKK.out _ _ (.inl rfl) HIW.out rfl
       ·obtain rfl := Option.some.inj ho
        go_simp
        exact HKK.out _ _ (.inl rfl) HIW.out (fun _ => rfl)
       ·obtain rfl := Option.some.inj ho
        have hd1 : ac.tmps.getD 32 undef = .pointer (some ⟨w0.heap.size, 1, none⟩) := hd ⟨5, .data⟩ (by simp) rfl rfl
        go_simp
        exact HKK.out _ _ (.inl rfl) HIW.out (fun _ => rfl)
       ·obtain rfl := Option.some.inj ho
        have hd1 : ac.tmps.getD 33 undef = .string ⟨r2.toArray⟩ := hd ⟨6, .data⟩ (by simp) rfl rfl
        go_simp
        exact HKK.out _ _ (.inl rfl) HIW.out (fun _ => rfl)
       ·obtain rfl := Option.some.inj ho
        have hd1 : ac.tmps.getD 31 undef = .bool true := hd ⟨4, .data⟩ (by simp) rfl
        have hd2 : ac.tmps.getD 34 undef = .bool (!r2.isEmpty) := hd ⟨7, .data⟩ (by simp) rfl rfl
        go_simp
        exact HKK.out _ _ (.inl rfl) HIW.out rfl
       ·obtain rfl := Option.some.inj ho
        have hd1 : ac.tmps.getD 27 undef = .agg #[.string ⟨t1.toArray⟩, .string ⟨r2.toArray⟩] := hd ⟨0, .data⟩ (by simp) rfl
        have HST := Lib.hid (HIW.out.st (.string ⟨t1.toArray⟩) (.string ⟨r2.toArray⟩))
        go_simp
        exact HKK.out undef _ (.inr HST.out.2) HST.out.1 HST.out.2
       ·obtain rfl := Option.some.inj ho
        have hd1 : ac.tmps.getD 35 undef = .bool (true && !r2.isEmpty) := hd ⟨8, .data⟩ (by simp) rfl
        go_simp
        exact HKK.out _ _ (.inl rfl) HIW.out rfl
      case refine_4 =>
       intro ac W hB hG
       have h9 : W.heap[w.heap.size]? = some (.cells #[.string ⟨t1.toArray⟩, .string ⟨r2.toArray⟩] 47 (0, 0)) := hG 9 (by decide)
       have h10 : ac.tmps.getD 3 undef = .bool (true && !r2.isEmpty) := hG 10 (by decide)
       have hs2 : ac.tmps.getD 2 undef = .pointer (some ⟨w.heap.size, 0, none⟩) := hB.fixed 2 _ (by simp)
       have hbw := hB.inv.2.2.1
       have hdf := hB.defers
       obtain ⟨tm, df⟩ := ac
       obtain rfl : df = [] := hdf
       have HR9 := Lib.hid (ret_df2 (fn := Tryz.f44) (p := 2) (t := 3) (df := []) rfl h9 rfl rfl hs2 (post := RlineP t w) (by rw [h10]; exact HE2.out _ W (by rw [HNBV.out]; cases r2 <;> rfl) hbw))
       clear hB hG h9 h10 hs2
       go_wp2_with fail
       exact HR9.out
      case refine_5 =>
       simp only [List.mem_cons, List.not_mem_nil, or_false, Prod.mk.injEq] at hs
       rcases hs with ⟨rfl, rfl⟩ | ⟨rfl, rfl⟩ <;> rfl
   ·have z1 : decide ((k : Int) < (t.length : Int)) = false := decide_eq_false (by omega)
    have y1 : decide (k < t.length) = false := decide_eq_false hlt
    go_wp2_with fail
    go_region_with (first | (go_at_call 43; refine (HTR.out _).mono ?_; rintro e w3 ⟨rfl, rfl⟩))
    all_goals
     have HI : Hid (LnI w w0.heap.size t1 r2 (w0.alloc (.cells #[.string ⟨t1.toArray⟩, .string ⟨r2.toArray⟩] 47)).drew.drew) := Lib.hid ⟨heap_alloc_new w0 _, ⟨_, _, (heap_alloc_old w0 _ HL0.out).trans HH0.out⟩, (HB0.out.trans ((al_below w0 _).mono HB0.out.size)).drew.drew, HL0.out⟩
     cases hnb : nmB t1 with
     | false =>
      have HNBV := Lib.hid hnb
      rw [hnb] at HNB
      go_upto_region 5 with fail
      refine wp_region_slotsBG (by rfl) (by kernel_rfl) (by kernel_rfl) 36 [] [(2, .pointer (some ⟨w.heap.size, 0, none⟩)), (5, .pointer (some ⟨w0.heap.size, 0, none⟩))] (by kernel_rfl) (LnI w w0.heap.size t1 r2) (LnR w.heap.size t1 r2) (LnG w0.heap.size w.heap.size t1 r2 false) (LnG.keep _ _ _ _ _) (fun _ => .inl rfl) (fun _ => false) ?_ ?_ ?_ ?_ ⟨rfl, rfl, fun s v hs => ?_, HI.out⟩
      case refine_1 =>
       intro i o j want ho hg v W hG
       have hi : i < 11 := (Array.getElem?_eq_some_iff.1 ho).1
       rcases (show i = 0 ∨ i = 1 ∨ i = 2 ∨ i = 3 ∨ i = 4 ∨ i = 5 ∨ i = 6 ∨ i = 7 ∨ i = 8 ∨ i = 9 ∨ i = 10 by omega) with rfl | rfl | rfl | rfl | rfl | rfl | rfl | rfl | rfl | rfl | rfl
       all_goals (obtain rfl := Option.some.inj ho; first | exact absurd (show (none : Option (Nat × Bool)) = some (j, want) from hg) (by simp) | (injection (show some (4, true) = some (j, want) from hg) with hg; injection hg with hg1 hg2; subst hg1 hg2; exact hG))
      case refine_2 =>
       intro i o j want ho hg hne v W
       have hi : i < 11 := (Array.getElem?_eq_some_iff.1 ho).1
       rcases (show i = 0 ∨ i = 1 ∨ i = 2 ∨ i = 3 ∨ i = 4 ∨ i = 5 ∨ i = 6 ∨ i = 7 ∨ i = 8 ∨ i = 9 ∨ i = 10 by omega) with rfl | rfl | rfl | rfl | rfl | rfl | rfl | rfl | rfl | rfl | rfl
       all_goals (obtain rfl := Option.some.inj ho; first | exact absurd (show (none : Option (Nat × Bool)) = some (j, want) from hg) (by simp) | (injection (show some (4, true) = some (j, want) from hg) with hg; injection hg with hg1 hg2; subst hg1 hg2; first | exact absurd rfl hne | (intro h; cases h)))
      case refine_3 =>
       intro i o ho hgo ac W hB hd K hK
       have hi : i < 11 := (Array.getElem?_eq_some_iff.1 ho).1
       have hs2 : ac.tmps.getD 2 undef = .pointer (some ⟨w.heap.size, 0, none⟩) := hB.fixed 2 _ (by simp)
       have hs5 : ac.tmps.getD 5 undef = .pointer (some ⟨w0.heap.size, 0, none⟩) := hB.fixed 5 _ (by simp)
       have HIW := Lib.hid hB.inv
       have HKK := Lib.hid hK
       obtain ⟨hq, ⟨x0, y0, hz⟩, _, _⟩ := HIW.out
       have e0 : W.cell? ⟨w0.heap.size, 0, none⟩ = some (.string ⟨t1.toArray⟩) := Lib.cell_of_heap hq 0
       have e1 : W.cell? ⟨w0.heap.size, 1, none⟩ = some (.string ⟨r2.toArray⟩) := Lib.cell_of_heap hq 1
       have f0 : W.cell? ⟨w.heap.size, 0, none⟩ = some x0 := Lib.cell_of_heap hz 0
       have f1 : W.cell? ⟨w.heap.size, 1, none⟩ = some y0 := Lib.cell_of_heap hz 1
       have g0 : W.frozen? ⟨w.heap.size, 0, none⟩ = false := Lib.frozen_of_heap hz 0
       have g1 : W.frozen? ⟨w.heap.size, 1, none⟩ = false := Lib.frozen_of_heap hz 1
       clear hK hB hq hz
       rcases (show i = 0 ∨ i = 1 ∨ i = 2 ∨ i = 3 ∨ i = 4 ∨ i = 5 ∨ i = 6 ∨ i = 7 ∨ i = 8 ∨ i = 9 ∨ i = 10 by omega) with rfl | rfl | rfl | rfl | rfl | rfl | rfl | rfl | rfl | rfl | rfl
       ·obtain rfl := Option.some.inj ho
        go_simp
        exact HKK.out _ _ (.inl rfl) HIW.out rfl
       ·obtain rfl := Option.some.inj ho
        go_simp
        exact HKK.out _ _ (.inl rfl) HIW.out rfl
       ·obtain rfl := Option.some.inj ho
        have hd1 : ac.tmps.getD 28 undef = .pointer (some ⟨w0.heap.size, 0, none⟩) := hd ⟨1, .data⟩ (by simp) rfl
        go_simp
        exact HKK.out _ _ (.inl rfl) HIW.out rfl
       ·obtain rfl := Option.some.inj ho
        have hd1 : ac.tmps.getD 29 undef = .string ⟨t1.toArray⟩ := hd ⟨2, .data⟩ (by simp) rfl
        go_simp
        refine (HNB.out _).mono ?_
        rintro e w3 ⟨rfl, rfl⟩
        exact HKK.out _ _ (.inl rfl) HIW.out rfl
       ·obtain rfl := Option.some.inj ho
        have hd1 : ac.tmps.getD 30 undef = .bool false := hd ⟨3, .data⟩ (by simp) rfl
        go_simp
        exact HKK.out _ _ (.inl rfl) HIW.out rfl
       ·obtain rfl := Option.some.inj ho
        go_simp
        exact HKK.out _ _ (.inl rfl) HIW.out (fun _ => rfl)
       ·obtain rfl := Option.some.inj ho
        exact absurd (hgo 4 true rfl) (by decide)
       ·obtain rfl := Option.some.inj ho
        exact absurd (hgo 4 true rfl) (by decide)
       ·obtain rfl := Option.some.inj ho
        have hd1 : ac.tmps.getD 31 undef = .bool false := hd ⟨4, .data⟩ (by simp) rfl
        go_simp
        exact HKK.out _ _ (.inl rfl) HIW.out rfl
       ·obtain rfl := Option.some.inj ho
        have hd1 : ac.tmps.getD 27 undef = .agg #[.string ⟨t1.toArray⟩, .string ⟨r2.toArray⟩] := hd ⟨0, .data⟩ (by simp) rfl
        have HST := Lib.hid (HIW.out.st (.string ⟨t1.toArray⟩) (.string ⟨r2.toArray⟩))
        go_simp
        exact HKK.out undef _ (.inr HST.out.2) HST.out.1 HST.out.2
       ·obtain rfl := Option.some.inj ho
        have hd1 : ac.tmps.getD 35 undef = .bool (false && !r2.isEmpty) := hd ⟨8, .data⟩ (by simp) rfl
        go_simp
        exact HKK.out _ _ (.inl rfl) HIW.out rfl
      case refine_4 =>
       intro ac W hB hG
       have h9 : W.heap[w.heap.size]? = some (.cells #[.string ⟨t1.toArray⟩, .string ⟨r2.toArray⟩] 47 (0, 0)) := hG 9 (by decide)
       have h10 : ac.tmps.getD 3 undef = .bool (false && !r2.isEmpty) := hG 10 (by decide)
       have hs2 : ac.tmps.getD 2 undef = .pointer (some ⟨w.heap.size, 0, none⟩) := hB.fixed 2 _ (by simp)
       have hbw := hB.inv.2.2.1
       have hdf := hB.defers
       obtain ⟨tm, df⟩ := ac
       obtain rfl : df = [] := hdf
       have HR9 := Lib.hid (ret_df2 (fn := Tryz.f44) (p := 2) (t := 3) (df := []) rfl h9 rfl rfl hs2 (post := RlineP t w) (by rw [h10]; exact HE2.out _ W (by rw [HNBV.out]; cases r2 <;> rfl) hbw))
       clear hB hG h9 h10 hs2
       go_wp2_with fail
       exact HR9.out
      case refine_5 =>
       simp only [List.mem_cons, List.not_mem_nil, or_false, Prod.mk.injEq] at hs
       rcases hs with ⟨rfl, rfl⟩ | ⟨rfl, rfl⟩ <;> rfl
     | true =>
      have HNBV := Lib.hid hnb
      rw [hnb] at HNB
      go_upto_region 5 with fail
      refine wp_region_slotsBG (by rfl) (by kernel_rfl) (by kernel_rfl) 36 [] [(2, .pointer (some ⟨w.heap.size, 0, none⟩)), (5, .pointer (some ⟨w0.heap.size, 0, none⟩))] (by kernel_rfl) (LnI w w0.heap.size t1 r2) (LnR w.heap.size t1 r2) (LnG w0.heap.size w.heap.size t1 r2 true) (LnG.keep _ _ _ _ _) (fun _ => .inl rfl) (fun _ => true) ?_ ?_ ?_ ?_ ⟨rfl, rfl, fun s v hs => ?_, HI.out⟩
      case refine_1 =>
       intro i o j want ho hg v W hG
       have hi : i < 11 := (Array.getElem?_eq_some_iff.1 ho).1
       rcases (show i = 0 ∨ i = 1 ∨ i = 2 ∨ i = 3 ∨ i = 4 ∨ i = 5 ∨ i = 6 ∨ i = 7 ∨ i = 8 ∨ i = 9 ∨ i = 10 by omega) with rfl | rfl | rfl | rfl | rfl | rfl | rfl | rfl | rfl | rfl | rfl
       all_goals (obtain rfl := Option.some.inj ho; first | exact absurd (show (none : Option (Nat × Bool)) = some (j, want) from hg) (by simp) | (injection (show some (4, true) = some (j, want) from hg) with hg; injection hg with hg1 hg2; subst hg1 hg2; exact hG))
      case refine_2 =>
       intro i o j want ho hg hne v W
       have hi : i < 11 := (Array.getElem?_eq_some_iff.1 ho).1
       rcases (show i = 0 ∨ i = 1 ∨ i = 2 ∨ i = 3 ∨ i = 4 ∨ i = 5 ∨ i = 6 ∨ i = 7 ∨ i = 8 ∨ i = 9 ∨ i = 10 by omega) with rfl | rfl | rfl | rfl | rfl | rfl | rfl | rfl | rfl | rfl | rfl
       all_goals (obtain rfl := Option.some.inj ho; first | exact absurd (show (none : Option (Nat × Bool)) = some (j, want) from hg) (by simp) | (injection (show some (4, true) = some (j, want) from hg) with hg; injection hg with hg1 hg2; subst hg1 hg2; first | exact absurd rfl hne | (intro h; cases h)))
      case refine_3 =>
       intro i o ho hgo ac W hB hd K hK
       have hi : i < 11 := (Array.getElem?_eq_some_iff.1 ho).1
       have hs2 : ac.tmps.getD 2 undef = .pointer (some ⟨w.heap.size, 0, none⟩) := hB.fixed 2 _ (by simp)
       have hs5 : ac.tmps.getD 5 undef = .pointer (some ⟨w0.heap.size, 0, none⟩) := hB.fixed 5 _ (by simp)
       have HIW := Lib.hid hB.inv
       have HKK := Lib.hid hK
       obtain ⟨hq, ⟨x0, y0, hz⟩, _, _⟩ := HIW.out
       have e0 : W.cell? ⟨w0.heap.size, 0, none⟩ = some (.string ⟨t1.toArray⟩) := Lib.cell_of_heap hq 0
       have e1 : W.cell? ⟨w0.heap.size, 1, none⟩ = some (.string ⟨r2.toArray⟩) := Lib.cell_of_heap hq 1
       have f0 : W.cell? ⟨w.heap.size, 0, none⟩ = some x0 := Lib.cell_of_heap hz 0
       have f1 : W.cell? ⟨w.heap.size, 1, none⟩ = some y0 := Lib.cell_of_heap hz 1
       have g0 : W.frozen? ⟨w.heap.size, 0, none⟩ = false := Lib.frozen_of_heap hz 0
       have g1 : W.frozen? ⟨w.heap.size, 1, none⟩ = false := Lib.frozen_of_heap hz 1
       clear hK hB hq hz
       rcases (show i = 0 ∨ i = 1 ∨ i = 2 ∨ i = 3 ∨ i = 4 ∨ i = 5 ∨ i = 6 ∨ i = 7 ∨ i = 8 ∨ i = 9 ∨ i = 10 by omega) with rfl | rfl | rfl | rfl | rfl | rfl | rfl | rfl | rfl | rfl | rfl
       ·obtain rfl := Option.some.inj ho
        go_simp
        exact HKK.out _ _ (.inl rfl) HIW.out rfl
       ·obtain rfl := Option.some.inj ho
        go_simp
        exact HKK.out _ _ (.inl rfl) HIW.out rfl
       ·obtain rfl := Option.some.inj ho
        have hd1 : ac.tmps.getD 28 undef = .pointer (some ⟨w0.heap.size, 0, none⟩) := hd ⟨1, .data⟩ (by simp) rfl
        go_simp
        exact HKK.out _ _ (.inl rfl) HIW.out rfl
       ·obtain rfl := Option.some.inj ho
        have hd1 : ac.tmps.getD 29 undef = .string ⟨t1.toArray⟩ := hd ⟨2, .data⟩ (by simp) rfl
        go_simp
        refine (HNB.out _).mono ?_
        rintro e w3 ⟨rfl, rfl⟩
        exact HKK.out _ _ (.inl rfl) HIW.out rfl
       ·obtain rfl := Option.some.inj ho
        have hd1 : ac.tmps.getD 30 undef = .bool true := hd ⟨3, .data⟩ (by simp) rfl
        go_simp
        exact HKK.out _ _ (.inl rfl) HIW.out rfl
       ·obtain rfl := Option.some.inj ho
        go_simp
        exact HKK.out _ _ (.inl rfl) HIW.out (fun _ => rfl)
       ·obtain rfl := Option.some.inj ho
        have hd1 : ac.tmps.getD 32 undef = .pointer (some ⟨w0.heap.size, 1, none⟩) := hd ⟨5, .data⟩ (by simp) rfl rfl
        go_simp
        exact HKK.out _ _ (.inl rfl) HIW.out (fun _ => rfl)
       ·obtain rfl := Option.some.inj ho
        have hd1 : ac.tmps.getD 33 undef = .string ⟨r2.toArray⟩ := hd ⟨6, .data⟩ (by simp) rfl rfl
        go_simp
        exact HKK.out _ _ (.inl rfl) HIW.out (fun _ => rfl)
       ·obtain rfl := Option.some.inj ho
        have hd1 : ac.tmps.getD 31 undef = .bool true := hd ⟨4, .data⟩ (by simp) rfl
        have hd2 : ac.tmps.getD 34 undef = .bool (!r2.isEmpty) := hd ⟨7, .data⟩ (by simp) rfl rfl
        go_simp
        exact HKK.out _ _ (.inl rfl) HIW.out rfl
       ·obtain rfl := Option.some.inj ho
        have hd1 : ac.tmps.getD 27 undef = .agg #[.string ⟨t1.toArray⟩, .string ⟨r2.toArray⟩] := hd ⟨0, .data⟩ (by simp) rfl
        have HST := Lib.hid (HIW.out.st (.string ⟨t1.toArray⟩) (.string ⟨r2.toArray⟩))
        go_simp
        exact HKK.out undef _ (.inr HST.out.2) HST.out.1 HST.out.2
       ·obtain rfl := Option.some.inj ho
        have hd1 : ac.tmps.getD 35 undef = .bool (true && !r2.isEmpty) := hd ⟨8, .data⟩ (by simp) rfl
        go_simp
        exact HKK.out _ _ (.inl rfl) HIW.out rfl
      case refine_4 =>
       intro ac W hB hG
       have h9 : W.heap[w.heap.size]? = some (.cells #[.string ⟨t1.toArray⟩, .string ⟨r2.toArray⟩] 47 (0, 0)) := hG 9 (by decide)
       have h10 : ac.tmps.getD 3 undef = .bool (true && !r2.isEmpty) := hG 10 (by decide)
       have hs2 : ac.tmps.getD 2 undef = .pointer (some ⟨w.heap.size, 0, none⟩) := hB.fixed 2 _ (by simp)
       have hbw := hB.inv.2.2.1
       have hdf := hB.defers
       obtain ⟨tm, df⟩ := ac
       obtain rfl : df = [] := hdf
       have HR9 := Lib.hid (ret_df2 (fn := Tryz.f44) (p := 2) (t := 3) (df := []) rfl h9 rfl rfl hs2 (post := RlineP t w) (by rw [h10]; exact HE2.out _ W (by rw [HNBV.out]; cases r2 <;> rfl) hbw))
       clear hB hG h9 h10 hs2
       go_wp2_with fail
       exact HR9.out
      case refine_5 =>
       simp only [List.mem_cons, List.not_mem_nil, or_false, Prod.mk.injEq] at hs
       rcases hs with ⟨rfl, rfl⟩ | ⟨rfl, rfl⟩ <;> rfl
end Go.Proofs.YtgcpinnnfoanjaaGreatDoor
namespace Go.Proofs.YtgcpinnnfoanjaaGreatDoor
open Go.RowKit
theorem rlparse_long (s : List UInt8) (hs : 20000 < s.length) (w : World) : Calls Tryz.prog 24 #[.string ⟨s.toArray⟩] w fun e w' => e = .returned (.tuple #[.slice none 0 0, .int .i64 0, .int .i64 3]) ∧ Below w.heap.size w w' := by
 have z0 : decide ((20000 : Int) < (s.length : Int)) = true := decide_eq_true (by omega)
 have y0 : decide (20000 < s.length) = true := decide_eq_true hs
 go_enter Tryz.func24, Tryz.ntmps24
 go_wp2_with fail
 go_ret3
 exact ⟨rfl, Below.refl _ _⟩
theorem lparse_long (s : List UInt8) (hs : 20000 < s.length) (w : World) : Calls Tryz.prog 23 #[.string ⟨s.toArray⟩] w fun e w' => e = .returned (.tuple #[.slice none 0 0, .int .i64 0, .int .i64 3]) ∧ Below w.heap.size w w' := by
 have z0 : decide ((20000 : Int) < (s.length : Int)) = true := decide_eq_true (by omega)
 have y0 : decide (20000 < s.length) = true := decide_eq_true hs
 go_enter Tryz.func23, Tryz.ntmps23
 go_wp2_with fail
 go_ret3
 exact ⟨rfl, Below.refl _ _⟩
def PlI (s rest : List UInt8) (more : Bool) (n : Nat) : Prop := rest.length ≤ s.length ∧ n ≤ s.length + 1 ∧ (more = true → n + rest.length ≤ s.length)
theorem PlI.step {s rest : List UInt8} {n : Nat} (h : PlI s rest true n) : PlI s (Asc.cutB rest 10) (Asc.has rest 10) (n + 1) := by
 obtain ⟨h1, h2, h3⟩ := h
 have h4 := h3 rfl
 have hp := Asc.pos_le rest 10
 have hl : (Asc.cutB rest 10).length = rest.length - (Asc.pos rest 10 + 1) := by unfold Asc.cutB; rw [List.length_drop]
 refine ⟨by omega, by omega, fun hh => ?_⟩
 unfold Asc.has at hh
 rw [decide_eq_true_iff] at hh
 omega
set_option maxHeartbeats 16000000 in
set_option maxRecDepth 1000000 in
theorem rlparse_any (s : List UInt8) (w : World) (hs : s.length ≤ 20000) :
  Calls Tryz.prog 24 #[.string ⟨s.toArray⟩] w (LParseP Lb.ckM s w) := by
 obtain ⟨i0, hi, hz0, hz1, hz2⟩ := info_parts infoDf
 obtain ⟨R, hR⟩ : ∃ R, Lb.plM (Lib.split s [10]) 0 [] = R := ⟨_, rfl⟩
 have HEND : Hid (∀ e w', Below w.heap.size w w' → (match R with
  | .error x => e = .returned (.tuple #[.slice none 0 0, .int .i64 (x.1 : Int), .int .i64 (x.2 : Int)])
  | .ok l => if Lb.ckM l = 0 then ∃ v, e = .returned (.tuple #[v, .int .i64 0, .int .i64 0]) ∧ DfAt w' l v else e = .returned (.tuple #[.slice none 0 0, .int .i64 0, .int .i64 (Lb.ckM l : Int)])) → LParseP Lb.ckM s w e w') := Lib.hid (fun e w' h1 h2 => ⟨h1, by rw [hR]; exact h2⟩)
 have HR0 : Hid (Lb.plM (if true = true then Lib.split s [10] else []) 0 [] = R) := Lib.hid (by rw [if_pos rfl]; exact hR)
 have HP0 : Hid (PlI s s true 0) := Lib.hid ⟨Nat.le_refl _, by omega, fun _ => by omega⟩
 have HCT : Hid (∀ (l : List UInt8) W, l.length ≤ 1000000 → Calls Tryz.prog 42 #[.string ⟨l.toArray⟩, .int .u8 10] W fun e w' =>
   e = .returned (.tuple #[.string ⟨(Asc.cutA l 10).toArray⟩, .string ⟨(Asc.cutB l 10).toArray⟩, .bool (Asc.has l 10)]) ∧ Below W.heap.size W w') := Lib.hid (fun l W h => rcut_any l 10 W (by omega))
 have z0 : decide ((20000 : Int) < (s.length : Int)) = false := decide_eq_false (by omega)
 have y0 : decide (20000 < s.length) = false := decide_eq_false (by omega)
 clear hR
 go_enter Tryz.func24, Tryz.ntmps24
 go_wp2_with fail
 go_loopw [5, 6, 7, 8] (fun lv rv mv nv wr => ∃ (acc : List Lb.Def) (rest : List UInt8) (more : Bool) (n : Nat) (v : Value), v = lv ∧ rv = .string ⟨rest.toArray⟩ ∧ mv = .bool more ∧ nv = .int .i64 ((n + 1 : Nat) : Int) ∧ PlI s rest more n ∧ acc.length ≤ 40 ∧ Hid (Lb.plM (if more = true then Lib.split rest [10] else []) n acc = R) ∧ Hid (∀ i (h : i < acc.length), acc[i].1.length ≤ 20000 ∧ acc[i].2.length ≤ 20000) ∧ Hid (OR w.heap.size 47 2 DfR wr acc v) ∧ Hid (Below w.heap.size w wr)) (fun _ _ _ nv _ => s.length + 3 - (intOf nv).toNat)
 case atStart => exact ⟨[], s, true, 0, _, rfl, rfl, rfl, rfl, HP0.out, by simp, HR0, Lib.hid (fun i h => by simp at h), Lib.hid OR.nil, Lib.hid (Below.refl _ _)⟩
 case round =>
  obtain ⟨acc, rest, more, n, v, rfl, rfl, rfl, rfl, HPL, hacc, HR, HSZ, HO, HB⟩ := hrel
  clear HR0 HP0
  have hn1 := HPL.2.1
  have hrl := HPL.1
  obtain ⟨va, vc, rfl, _⟩ := HO.out.rw (F := fun _ => True) (fun _ _ => trivial)
  cases more with
  | false =>
   rw [if_neg (by decide), Lb.plM] at HR
   have HDF := Lib.hid (DfAt.orw HO.out (by omega))
   have HC := Lib.hid (rlcheck_any acc _ HO.out.cap ⟨hacc, fun i hi => by have := HSZ.out i hi; omega⟩ (fun i hi => by have := HSZ.out i hi; omega) wr HDF.out)
   go_wp2_with fail
   refine HC.out.mono ?_
   rintro e w3 ⟨rfl, hb3⟩
   have HB3 := Lib.hid (HB.out.trans (hb3.mono HB.out.size))
   have HD3 := Lib.hid (HDF.out.later hb3)
   clear hb3
   obtain ⟨K, hK⟩ : ∃ K, Lb.ckM acc = K := ⟨_, rfl⟩
   have HKK := Lib.hid hK
   rw [hK]
   clear hK
   rcases Nat.eq_zero_or_pos K with e0 | e0
   ·subst e0
    go_wp2_with fail
    go_ret3
    refine HEND.out _ _ HB3.out ?_
    rw [← HR.out]
    dsimp only
    rw [if_pos HKK.out]
    exact ⟨_, rfl, HD3.out⟩
   ·have hz : ((K : Int) == 0) = false := by rw [beq_eq_false_iff_ne]; omega
    have HE0 := Lib.hid e0
    clear e0
    go_wp2_with fail
    go_ret3
    refine HEND.out _ _ HB3.out ?_
    rw [← HR.out]
    dsimp only
    rw [HKK.out, if_neg (by have := HE0.out; omega)]
    rfl
  | true =>
   rw [if_pos rfl] at HR
   have hn2 := HPL.2.2 rfl
   have HPS := Lib.hid HPL.step
   obtain ⟨a, ha⟩ : ∃ a, Asc.cutA rest 10 = a := ⟨_, rfl⟩
   obtain ⟨q, hq⟩ : ∃ q, Asc.cutB rest 10 = q := ⟨_, rfl⟩
   obtain ⟨b, hb⟩ : ∃ b, Asc.has rest 10 = b := ⟨_, rfl⟩
   have hal : a.length ≤ rest.length := by rw [← ha]; unfold Asc.cutA; rw [List.length_take]; omega
   obtain ⟨t, ht⟩ : ∃ t, Lib.trimS a [32, 9] = t := ⟨_, rfl⟩
   have htl : t.length ≤ a.length := by rw [← ht]; exact trimS_len _ _
   have HST := Lib.hid (Lb.pl_step HR.out (t := t) (by rw [ha]; exact ht) hb hq)
   have HCU := Lib.hid (HCT.out rest wr (by omega))
   have HTR := Lib.hid (fun W => rtrim_any a W (by omega))
   rw [ha, hq, hb] at HCU
   rw [hq, hb] at HPS
   rw [ht] at HTR
   have hw1 : IntKind.i64.wrap (((n + 1 : Nat) : Int) + 1) = ((n + 1 + 1 : Nat) : Int) := by rw [IntWalk.i64_in _ (by omega)]; omega
   have HNM : Hid (∀ x : Nat, x = n + 1 → Value.int .i64 ((n + 1 : Nat) : Int) = .int .i64 (x : Int)) := Lib.hid (fun x h => by rw [h])
   obtain ⟨m, hm⟩ : ∃ m, n + 1 = m := ⟨_, rfl⟩
   rw [hm] at HST HPS hw1 ⊢
   have hml : m ≤ 20001 := by omega
   have HMS : Hid (m ≤ s.length + 1) := Lib.hid (by omega)
   clear ha hq hb ht hm HR HPL HCT hn1 hn2
   go_wp2_with fail
   refine HCU.out.mono ?_
   rintro e w2 ⟨rfl, hb2⟩
   have HB2 := Lib.hid (HB.out.trans (hb2.mono HB.out.size))
   have HO2 := Lib.hid (HO.out.keep (W' := w2) (fun j _ hj => hb2.block j hj) (fun _ _ h => h))
   clear hb2 HCU HB HO
   go_wp2_with fail
   refine (HTR.out _).mono ?_
   rintro e w3 ⟨rfl, rfl⟩
   rcases Nat.eq_zero_or_pos t.length with h0 | hpos
   ·obtain rfl := List.length_eq_zero_iff.1 h0
    have HN2 := Lib.hid (HST.out.1 (.inl rfl))
    clear h0
    go_wp2_with fail
    refine ⟨⟨acc, q, b, m, _, rfl, rfl, rfl, by first | rfl | rw [hw1] | go_num, HPS.out, hacc, HN2, HSZ, HO2, HB2⟩, by have := HMS.out; simp [intOf]; omega⟩
   ·have e2 : (t == []) = false := by cases t with | nil => simp at hpos | cons a b => rfl
    have hne : t ≠ [] := by intro h; rw [h] at hpos; simp at hpos
    obtain ⟨x0, ⟨_, hx0⟩, hc0, hb0⟩ := byte_at t 0 hpos
    have hhd : t.head? = some 35 ↔ x0 = 35 := by
     cases t with
     | nil => simp at hpos
     | cons a b =>
      simp only [List.getElem_cons_zero] at hc0
      simp only [List.head?_cons, Option.some.injEq]
      exact ⟨fun h => by rw [← hc0, h]; rfl, fun h => UInt8.toNat_inj.1 (hc0.trans h)⟩
    by_cases h35 : x0 = 35
    ·have HN2 := Lib.hid (HST.out.1 (.inr (hhd.2 h35)))
     subst h35
     clear hhd hne hc0
     go_wp2_with fail
     refine ⟨⟨acc, q, b, m, _, rfl, rfl, rfl, by first | rfl | rw [hw1] | go_num, HPS.out, hacc, HN2, HSZ, HO2, HB2⟩, by have := HMS.out; simp [intOf]; omega⟩
    ·have z1 : ((x0 : Int) == 35) = false := by rw [beq_eq_false_iff_ne]; omega
     have HS2 := Lib.hid (HST.out.2 (by rintro (h | h); exact hne h; exact h35 (hhd.1 h)))
     have HLN := Lib.hid (rline_any t w2 (by omega))
     clear hhd hne hc0 h35 HST
     go_wp2_with fail
     refine HLN.out.mono ?_
     rintro e w4 ⟨rfl, hb4⟩
     have HB4 := Lib.hid (HB2.out.trans (hb4.mono HB2.out.size))
     have HO4 := Lib.hid (HO2.out.keep (W' := w4) (fun j _ hj => hb4.block j hj) (fun _ _ h => h))
     clear hb4 HLN HB2 HO2
     have hl1 : (t.take (Lb.blk t)).length ≤ 20000 := by rw [List.length_take]; omega
     have hl2 : (Lib.trimS (t.drop (Lb.blk t)) [32, 9]).length ≤ 20000 := by
      have := trimS_len (t.drop (Lb.blk t)) [32, 9]
      rw [List.length_drop] at this
      omega
     have HLR : Hid (∀ d, Lb.lineR t = some d → d = (t.take (Lb.blk t), Lib.trimS (t.drop (Lb.blk t)) [32, 9])) := Lib.hid (fun d h => by
      unfold Lb.lineR at h
      split at h
      ·injection h with h; exact h.symm
      ·cases h)
     obtain ⟨n1, hn1⟩ : ∃ n1, t.take (Lb.blk t) = n1 := ⟨_, rfl⟩
     obtain ⟨s1, hs1⟩ : ∃ s1, Lib.trimS (t.drop (Lb.blk t)) [32, 9] = s1 := ⟨_, rfl⟩
     rw [hn1, hs1] at HLR ⊢
     rw [hn1] at hl1
     rw [hs1] at hl2
     clear hn1 hs1
     have hal := alb w4 (.cells #[.string ⟨n1.toArray⟩, .string ⟨s1.toArray⟩] 47)
     have hnew := heap_alloc_new w4 (.cells #[.string ⟨n1.toArray⟩, .string ⟨s1.toArray⟩] 47)
     have HB5 := Lib.hid (HB4.out.trans (hal.mono HB4.out.size))
     have HO5 := Lib.hid (HO4.out.keep (fun j _ hj => hal.block j hj) (fun _ _ h => h))
     have HNEW := Lib.hid hnew
     have HQ : Hid (w4.heap.size < (w4.alloc (.cells #[.string ⟨n1.toArray⟩, .string ⟨s1.toArray⟩] 47)).heap.size) := Lib.hid (by simp)
     have HF := Lib.hid (rfind_any acc n1 _ _ (DfAt.orw HO5.out (by omega)))
     clear hal hnew HB4 HO4
     cases hlr : Lb.lineR t with
     | none =>
      have HE1 := Lib.hid (HS2.out.1 hlr)
      clear hlr
      dsimp only [Option.isSome_none]
      go_wp2_with fail
      go_ret3
      refine HEND.out _ _ HB5.out ?_
      rw [HE1.out]
      all_goals rfl
     | some d =>
      obtain rfl := HLR.out d hlr
      have HS3 := Lib.hid (HS2.out.2 _ hlr)
      clear hlr HS2 HLR
      dsimp only [Option.isSome_some]
      go_wp2_with fail
      refine HF.out.mono ?_
      rintro e w6 ⟨hw6, hff⟩
      rw [hw6] at HB5 HO5 HNEW
      clear hw6 HF HQ
      have hbx := HNEW.out
      have b0 : w6.cell? ⟨w4.heap.size, 0, none⟩ = some (.string ⟨n1.toArray⟩) := Lib.cell_of_heap hbx 0
      have b1 : w6.cell? ⟨w4.heap.size, 1, none⟩ = some (.string ⟨s1.toArray⟩) := Lib.cell_of_heap hbx 1
      cases hfm : Lb.findM acc n1 with
      | some j =>
       rw [hfm] at hff
       simp only at hff
       subst hff
       have HE1 := Lib.hid (HS3.out.1 j hfm)
       clear hfm
       go_wp2_with fail
       go_ret3
       refine HEND.out _ _ HB5.out ?_
       rw [HE1.out]
       all_goals rfl
      | none =>
       rw [hfm] at hff
       simp only at hff
       subst hff
       have HS4 := Lib.hid (HS3.out.2 hfm)
       clear hfm
       by_cases h40 : acc.length = 40
       ·have HE1 := Lib.hid (HS4.out.1 h40)
        have z4 : decide ((40 : Int) ≤ (acc.length : Int)) = true := decide_eq_true (by omega)
        have y4 : decide (40 ≤ acc.length) = true := decide_eq_true (by omega)
        go_wp2_with fail
        go_ret3
        refine HEND.out _ _ HB5.out ?_
        rw [HE1.out]
        all_goals rfl
       ·have HN2 := Lib.hid (HS4.out.2 h40)
        have z4 : decide ((40 : Int) ≤ (acc.length : Int)) = false := decide_eq_false (by omega)
        have y4 : decide (40 ≤ acc.length) = false := decide_eq_false (by omega)
        obtain ⟨cs, hown, hpush⟩ := HO5.out.cells
        have hBW := HB5.out.size
        have HSZ2 : Hid (∀ i (h : i < (acc ++ [(n1, s1)]).length), (acc ++ [(n1, s1)])[i].1.length ≤ 20000 ∧ (acc ++ [(n1, s1)])[i].2.length ≤ 20000) := Lib.hid (fun i h => by
         by_cases e : i < acc.length
         ·rw [List.getElem_append_left e]; exact HSZ.out i e
         ·rw [List.getElem_append_right (by omega)]
          simp only [List.getElem_singleton]
          exact ⟨by omega, by omega⟩)
        go_wp2_with (at_builtin; refine wpList_append_lies _ rfl _ _ 26 rfl w.heap.size 47 i0 (.agg #[.string ⟨#[]⟩, .string ⟨#[]⟩]) 2 32 Tryz.underlying26 hi hz0 hz1 hz2 rfl (by decide) _ acc.length cs rfl (hown.alloc _) ⟨w6.heap.size, 0, none⟩ 1 1 [.string ⟨n1.toArray⟩, .string ⟨s1.toArray⟩] rfl rfl (World.news_of_block (heap_alloc_new w6 (.cells #[.string ⟨n1.toArray⟩, .string ⟨s1.toArray⟩] 47))) (by intro u hu; simp only [List.mem_cons, List.not_mem_nil, or_false] at hu; rcases hu with rfl | rfl <;> rfl) (by omega) (by unfold maxLen; omega) (by omega) (by simp; omega) _ rfl ?_; intro g6 cap6 w7 hown6 hgr6 hat6 hlt6; have HW6 := Lib.hid (push_below hgr6 hown hBW); have HO6 := Lib.hid (hpush DfR w7 ((n1, s1) : Lb.Def) [.string ⟨n1.toArray⟩, .string ⟨s1.toArray⟩] _ (fun _ _ h => h) rfl rfl (by omega) hown6); clear hown6 hgr6 hat6 hlt6 hown hpush)
        refine ⟨⟨acc ++ [(n1, s1)], q, b, m, _, rfl, rfl, rfl, by first | rfl | rw [hw1] | go_num, HPS.out, by simp; omega, HN2, HSZ2, HO6, Lib.hid (HB5.out.trans HW6.out)⟩, by have := HMS.out; simp [intOf]; omega⟩
end Go.Proofs.YtgcpinnnfoanjaaGreatDoor
namespace Go.Proofs.YtgcpinnnfoanjaaGreatDoor
open Go.RowKit
def pk1 : List (List UInt8) := [[], [32], [35, 32, 120, 10], [10]]
def pk2 : List (List UInt8) := [[32], [9, 32], []]
def pk3 : List (List UInt8) := [[10], [32, 10], [10, 10]]
theorem pk1_len : ∀ x ∈ pk1, x.length ≤ 4 := by decide
theorem pk2_len : ∀ x ∈ pk2, x.length ≤ 4 := by decide
theorem pk3_len : ∀ x ∈ pk3, x.length ≤ 4 := by decide
def SlR (L : List (List UInt8)) (g : Nat) (v : Value) (W : World) : Prop := ∃ b, v = .slice (some ⟨b, 0, none⟩) L.length L.length ∧ b ≠ g ∧ b < W.heap.size ∧ ∀ i (h : i < L.length), W.cell? ⟨b, i, none⟩ = some (.string ⟨(L[i]).toArray⟩)
theorem SlR.go {L : List (List UInt8)} {g : Nat} {v : Value} {W W' : World} (h : SlR L g v W) (ha : Apart g W W') : SlR L g v W' := by
 obtain ⟨b, e, hb, hl, hc⟩ := h
 exact ⟨b, e, hb, Nat.lt_of_lt_of_le hl ha.1.size, fun i hi => (ha.cell (p := ⟨b, i, none⟩) hb hl).trans (hc i hi)⟩
theorem SlR.new (L : List (List UInt8)) (g : Nat) (W : World) (hg : g < W.heap.size) : SlR L g (.slice (some ⟨W.heap.size, 0, none⟩) L.length L.length) (W.alloc (.cells (L.map fun f => Value.string ⟨f.toArray⟩).toArray 9)) :=
 ⟨_, rfl, by omega, by simp, fun i hi => by simp [go_sem, hi]⟩
def StU (v : Value) (n : Nat) : Prop := ∃ x : List UInt8, v = .string ⟨x.toArray⟩ ∧ x.length ≤ n
def LD (t n1 s1 : List UInt8) (g h : Nat) (k : Nat) (v : Value) (W : World) : Prop := match k with
 | 0 => v = .string ⟨t.toArray⟩
 | 1 => v = .pointer (some ⟨g, 0, none⟩)
 | 2 => SlR pk1 g v W
 | 3 => StU v 4
 | 4 => v = .pointer (some ⟨h, 0, none⟩)
 | 5 => v = .string ⟨n1.toArray⟩
 | 6 => StU v 1100
 | 7 => v = .pointer (some ⟨g, 0, none⟩)
 | 8 => SlR pk2 g v W
 | 9 => StU v 4
 | 10 => StU v 1200
 | 11 => v = .pointer (some ⟨h, 1, none⟩)
 | 12 => v = .string ⟨s1.toArray⟩
 | 13 => StU v 2300
 | 14 => v = .pointer (some ⟨g, 0, none⟩)
 | 15 => SlR pk3 g v W
 | 16 => StU v 4
 | 17 => StU v 2400
 | 18 => StU v (t.length + 2400)
 | 19 => StU v (t.length + 2400)
 | _ => True
theorem LD.keep (t n1 s1 : List UInt8) (g h : Nat) : ∀ (k : Nat) (v : Value) (w w' : World), Apart g w w' → LD t n1 s1 g h k v w → LD t n1 s1 g h k v w' := by
 intro k v w w' ha hk
 unfold LD at hk ⊢
 split at hk <;> first | exact hk.go ha | exact hk
def LDI (g h : Nat) (n1 s1 : List UInt8) (W1 W : World) : Prop := CodesAt W g ∧ h ≠ g ∧ h < W.heap.size ∧ W.cell? ⟨h, 0, none⟩ = some (.string ⟨n1.toArray⟩) ∧ W.cell? ⟨h, 1, none⟩ = some (.string ⟨s1.toArray⟩) ∧ Apart g W1 W
theorem LDI.go {g h : Nat} {n1 s1 : List UInt8} {W1 W W' : World} (i : LDI g h n1 s1 W1 W) (ha : Apart g W W') (hc : CodesAt W' g) : LDI g h n1 s1 W1 W' := by
 obtain ⟨_, h1, h2, h3, h4, h5⟩ := i
 exact ⟨hc, h1, Nat.lt_of_lt_of_le h2 ha.1.size, (ha.cell (p := ⟨h, 0, none⟩) h1 h2).trans h3, (ha.cell (p := ⟨h, 1, none⟩) h1 h2).trans h4, h5.trans ha⟩
theorem LDI.al {g h : Nat} {n1 s1 : List UInt8} {W1 W : World} (i : LDI g h n1 s1 W1 W) (o : Array Value) (ty : TypeId) : LDI g h n1 s1 W1 (W.alloc (.cells o ty)) ∧ Apart g W (W.alloc (.cells o ty)) := by
 have ha := Apart.of_below (al_below W (.cells o ty)) i.1.1
 exact ⟨i.go ha (i.1.below (al_below W _)), ha⟩
def kpR : List Nat := [0, 1, 2, 3, 4, 5, 7, 8, 9, 10, 11, 12, 13, 14, 15, 16, 17, 18, 19, 20, 21, 22, 23, 24, 25, 26, 27, 47, 48, 49, 50, 51, 52, 53, 54, 55, 56, 57, 58, 59, 60, 61, 62, 63, 64, 65, 66, 67, 68, 69, 70, 71, 72, 73, 74, 75, 76, 77, 78, 79, 80, 81, 82, 83, 84, 85]
theorem lcons {α : Type} {l : List α} {n : Nat} (h : l.length = n + 1) : ∃ x t, l = x :: t ∧ t.length = n := by
 cases l with
 | nil => simp at h
 | cons x t => exact ⟨x, t, rfl, by simpa using h⟩
set_option maxRecDepth 100000 in
theorem arr86 (a : Array Value) (h : a.size = 86) : ∃ x0 x1 x2 x3 x4 x5 x6 x7 x8 x9 x10 x11 x12 x13 x14 x15 x16 x17 x18 x19 x20 x21 x22 x23 x24 x25 x26 x27 x28 x29 x30 x31 x32 x33 x34 x35 x36 x37 x38 x39 x40 x41 x42 x43 x44 x45 x46 x47 x48 x49 x50 x51 x52 x53 x54 x55 x56 x57 x58 x59 x60 x61 x62 x63 x64 x65 x66 x67 x68 x69 x70 x71 x72 x73 x74 x75 x76 x77 x78 x79 x80 x81 x82 x83 x84 x85 : Value, a = (x0 :: x1 :: x2 :: x3 :: x4 :: x5 :: x6 :: x7 :: x8 :: x9 :: x10 :: x11 :: x12 :: x13 :: x14 :: x15 :: x16 :: x17 :: x18 :: x19 :: x20 :: x21 :: x22 :: x23 :: x24 :: x25 :: x26 :: x27 :: x28 :: x29 :: x30 :: x31 :: x32 :: x33 :: x34 :: x35 :: x36 :: x37 :: x38 :: x39 :: x40 :: x41 :: x42 :: x43 :: x44 :: x45 :: x46 :: x47 :: x48 :: x49 :: x50 :: x51 :: x52 :: x53 :: x54 :: x55 :: x56 :: x57 :: x58 :: x59 :: x60 :: x61 :: x62 :: x63 :: x64 :: x65 :: x66 :: x67 :: x68 :: x69 :: x70 :: x71 :: x72 :: x73 :: x74 :: x75 :: x76 :: x77 :: x78 :: x79 :: x80 :: x81 :: x82 :: x83 :: x84 :: x85 :: []).toArray := by
 obtain ⟨l⟩ := a
 simp only [List.size_toArray] at h
 obtain ⟨x0, t0, rfl, h0⟩ := lcons h
 obtain ⟨x1, t1, rfl, h1⟩ := lcons h0
 obtain ⟨x2, t2, rfl, h2⟩ := lcons h1
 obtain ⟨x3, t3, rfl, h3⟩ := lcons h2
 obtain ⟨x4, t4, rfl, h4⟩ := lcons h3
 obtain ⟨x5, t5, rfl, h5⟩ := lcons h4
 obtain ⟨x6, t6, rfl, h6⟩ := lcons h5
 obtain ⟨x7, t7, rfl, h7⟩ := lcons h6
 obtain ⟨x8, t8, rfl, h8⟩ := lcons h7
 obtain ⟨x9, t9, rfl, h9⟩ := lcons h8
 obtain ⟨x10, t10, rfl, h10⟩ := lcons h9
 obtain ⟨x11, t11, rfl, h11⟩ := lcons h10
 obtain ⟨x12, t12, rfl, h12⟩ := lcons h11
 obtain ⟨x13, t13, rfl, h13⟩ := lcons h12
 obtain ⟨x14, t14, rfl, h14⟩ := lcons h13
 obtain ⟨x15, t15, rfl, h15⟩ := lcons h14
 obtain ⟨x16, t16, rfl, h16⟩ := lcons h15
 obtain ⟨x17, t17, rfl, h17⟩ := lcons h16
 obtain ⟨x18, t18, rfl, h18⟩ := lcons h17
 obtain ⟨x19, t19, rfl, h19⟩ := lcons h18
 obtain ⟨x20, t20, rfl, h20⟩ := lcons h19
 obtain ⟨x21, t21, rfl, h21⟩ := lcons h20
 obtain ⟨x22, t22, rfl, h22⟩ := lcons h21
 obtain ⟨x23, t23, rfl, h23⟩ := lcons h22
 obtain ⟨x24, t24, rfl, h24⟩ := lcons h23
 obtain ⟨x25, t25, rfl, h25⟩ := lcons h24
 obtain ⟨x26, t26, rfl, h26⟩ := lcons h25
 obtain ⟨x27, t27, rfl, h27⟩ := lcons h26
 obtain ⟨x28, t28, rfl, h28⟩ := lcons h27
 obtain ⟨x29, t29, rfl, h29⟩ := lcons h28
 obtain ⟨x30, t30, rfl, h30⟩ := lcons h29
 obtain ⟨x31, t31, rfl, h31⟩ := lcons h30
 obtain ⟨x32, t32, rfl, h32⟩ := lcons h31
 obtain ⟨x33, t33, rfl, h33⟩ := lcons h32
 obtain ⟨x34, t34, rfl, h34⟩ := lcons h33
 obtain ⟨x35, t35, rfl, h35⟩ := lcons h34
 obtain ⟨x36, t36, rfl, h36⟩ := lcons h35
 obtain ⟨x37, t37, rfl, h37⟩ := lcons h36
 obtain ⟨x38, t38, rfl, h38⟩ := lcons h37
 obtain ⟨x39, t39, rfl, h39⟩ := lcons h38
 obtain ⟨x40, t40, rfl, h40⟩ := lcons h39
 obtain ⟨x41, t41, rfl, h41⟩ := lcons h40
 obtain ⟨x42, t42, rfl, h42⟩ := lcons h41
 obtain ⟨x43, t43, rfl, h43⟩ := lcons h42
 obtain ⟨x44, t44, rfl, h44⟩ := lcons h43
 obtain ⟨x45, t45, rfl, h45⟩ := lcons h44
 obtain ⟨x46, t46, rfl, h46⟩ := lcons h45
 obtain ⟨x47, t47, rfl, h47⟩ := lcons h46
 obtain ⟨x48, t48, rfl, h48⟩ := lcons h47
 obtain ⟨x49, t49, rfl, h49⟩ := lcons h48
 obtain ⟨x50, t50, rfl, h50⟩ := lcons h49
 obtain ⟨x51, t51, rfl, h51⟩ := lcons h50
 obtain ⟨x52, t52, rfl, h52⟩ := lcons h51
 obtain ⟨x53, t53, rfl, h53⟩ := lcons h52
 obtain ⟨x54, t54, rfl, h54⟩ := lcons h53
 obtain ⟨x55, t55, rfl, h55⟩ := lcons h54
 obtain ⟨x56, t56, rfl, h56⟩ := lcons h55
 obtain ⟨x57, t57, rfl, h57⟩ := lcons h56
 obtain ⟨x58, t58, rfl, h58⟩ := lcons h57
 obtain ⟨x59, t59, rfl, h59⟩ := lcons h58
 obtain ⟨x60, t60, rfl, h60⟩ := lcons h59
 obtain ⟨x61, t61, rfl, h61⟩ := lcons h60
 obtain ⟨x62, t62, rfl, h62⟩ := lcons h61
 obtain ⟨x63, t63, rfl, h63⟩ := lcons h62
 obtain ⟨x64, t64, rfl, h64⟩ := lcons h63
 obtain ⟨x65, t65, rfl, h65⟩ := lcons h64
 obtain ⟨x66, t66, rfl, h66⟩ := lcons h65
 obtain ⟨x67, t67, rfl, h67⟩ := lcons h66
 obtain ⟨x68, t68, rfl, h68⟩ := lcons h67
 obtain ⟨x69, t69, rfl, h69⟩ := lcons h68
 obtain ⟨x70, t70, rfl, h70⟩ := lcons h69
 obtain ⟨x71, t71, rfl, h71⟩ := lcons h70
 obtain ⟨x72, t72, rfl, h72⟩ := lcons h71
 obtain ⟨x73, t73, rfl, h73⟩ := lcons h72
 obtain ⟨x74, t74, rfl, h74⟩ := lcons h73
 obtain ⟨x75, t75, rfl, h75⟩ := lcons h74
 obtain ⟨x76, t76, rfl, h76⟩ := lcons h75
 obtain ⟨x77, t77, rfl, h77⟩ := lcons h76
 obtain ⟨x78, t78, rfl, h78⟩ := lcons h77
 obtain ⟨x79, t79, rfl, h79⟩ := lcons h78
 obtain ⟨x80, t80, rfl, h80⟩ := lcons h79
 obtain ⟨x81, t81, rfl, h81⟩ := lcons h80
 obtain ⟨x82, t82, rfl, h82⟩ := lcons h81
 obtain ⟨x83, t83, rfl, h83⟩ := lcons h82
 obtain ⟨x84, t84, rfl, h84⟩ := lcons h83
 obtain ⟨x85, t85, rfl, h85⟩ := lcons h84
 obtain rfl := List.length_eq_zero_iff.1 h85
 exact ⟨_, _, _, _, _, _, _, _, _, _, _, _, _, _, _, _, _, _, _, _, _, _, _, _, _, _, _, _, _, _, _, _, _, _, _, _, _, _, _, _, _, _, _, _, _, _, _, _, _, _, _, _, _, _, _, _, _, _, _, _, _, _, _, _, _, _, _, _, _, _, _, _, _, _, _, _, _, _, _, _, _, _, _, _, _, _, rfl⟩
end Go.Proofs.YtgcpinnnfoanjaaGreatDoor
namespace Go.Proofs.YtgcpinnnfoanjaaGreatDoor
open Go.RowKit
noncomputable def plV (s : List UInt8) : List Lb.Def × Nat × Nat :=
 if 20000 < s.length then ([], 0, 3)
 else match Lb.plM (Lib.split s [10]) 0 [] with
  | .error x => ([], x.1, x.2)
  | .ok l => if Lb.ckM l = 0 then (l, 0, 0) else ([], 0, Lb.ckM l)
def PlP (s : List UInt8) (w : World) (e : Ending) (w' : World) : Prop := ∃ a c, e = .returned (.tuple #[.slice a (plV s).1.length c, .int .i64 ((plV s).2.1 : Int), .int .i64 ((plV s).2.2 : Int)]) ∧ DfAt w' (plV s).1 (.slice a (plV s).1.length c) ∧ Below w.heap.size w w'
theorem df_none {w : World} : DfAt w [] (.slice none 0 0) := ⟨none, 0, rfl, by simp, fun i hi => by simp at hi⟩
theorem PlP.long {s : List UInt8} (hs : 20000 < s.length) {w : World} {e : Ending} {w' : World} (h : e = .returned (.tuple #[.slice none 0 0, .int .i64 0, .int .i64 3]) ∧ Below w.heap.size w w') : PlP s w e w' := by
 unfold PlP plV
 rw [if_pos hs]
 exact ⟨none, 0, h.1, df_none, h.2⟩
theorem PlP.short {s : List UInt8} (hs : ¬ 20000 < s.length) {w : World} {e : Ending} {w' : World} (h : LParseP Lb.ckM s w e w') : PlP s w e w' := by
 obtain ⟨hb, h⟩ := h
 unfold PlP plV
 rw [if_neg hs]
 cases hp : Lb.plM (Lib.split s [10]) 0 [] with
 | error x => rw [hp] at h; exact ⟨none, 0, h, df_none, hb⟩
 | ok l =>
  rw [hp] at h
  simp only at h ⊢
  by_cases h0 : Lb.ckM l = 0
  ·rw [if_pos h0] at h
   rw [if_pos h0]
   obtain ⟨v, he, hd⟩ := h
   obtain ⟨a, c, rfl, _⟩ := id hd
   exact ⟨a, c, he, hd, hb⟩
  ·rw [if_neg h0] at h
   rw [if_neg h0]
   exact ⟨none, 0, h, df_none, hb⟩
theorem lparse_v (s : List UInt8) (w : World) (hk : KM w) : Calls Tryz.prog 23 #[.string ⟨s.toArray⟩] w (PlP s w) := by
 by_cases hs : 20000 < s.length
 ·exact (lparse_long s hs w).mono fun _ _ h => .long hs h
 ·exact (lparse_any Lb.ckM s w hk (by omega) (fun l' v W h1 h2 hK hD => lcheck_any l' v ⟨h1, fun i hi => by have := h2 i hi; omega⟩ (fun i hi => by have := h2 i hi; omega) W hK hD)).mono fun _ _ h => .short hs h
theorem rlparse_v (s : List UInt8) (w : World) : Calls Tryz.prog 24 #[.string ⟨s.toArray⟩] w (PlP s w) := by
 by_cases hs : 20000 < s.length
 ·exact (rlparse_long s hs w).mono fun _ _ h => .long hs h
 ·exact (rlparse_any s w (by omega)).mono fun _ _ h => .short hs h
set_option maxHeartbeats 16000000 in
set_option maxRecDepth 1000000 in
theorem reads_any (s0 cs : List UInt8) (v : Value) (w : World) (hk : KM w) (hb : BS w v cs) (hs0 : s0.length ≤ 140737488351232) : Calls Tryz.prog 4 #[.string ⟨s0.toArray⟩, v] w fun e w' => e = .returned (.bool true) ∧ Below w.heap.size w w' := by
 have HAW := Lib.hid (lawake_any w hk)
 have HK := Lib.hid hk
 have HBS := Lib.hid hb
 obtain ⟨va, vc, rfl, _⟩ := hb
 clear hk
 go_enter Tryz.func4, Tryz.ntmps4
 go_wp2_with fail
 refine HAW.out.mono ?_
 rintro e w1 ⟨rfl, hb1⟩
 have HB1 := Lib.hid hb1
 have HBS1 := Lib.hid (BS.below HBS.out hb1)
 clear hb1 HAW HBS
 go_wp2_with fail
 refine (new_any _ cs 100 w1 HBS1.out (by omega)).mono ?_
 rintro e w2 ⟨rfl, hca, hb2⟩
 have HC2 := Lib.hid hca
 have HB2 := Lib.hid (HB1.out.trans (hb2.mono HB1.out.size))
 have HGW : Hid (w.heap.size ≤ w1.heap.size) := Lib.hid HB1.out.size
 obtain ⟨g, hg⟩ : ∃ g, w1.heap.size = g := ⟨_, rfl⟩
 rw [hg] at HC2 HGW ⊢
 have HGL : Hid (g < w2.heap.size) := Lib.hid HC2.out.1
 clear hca hb2 hg HBS1 HB1
 go_wp2_with fail
 refine (draw_full g w2 HC2.out).mono ?_
 rintro e w3 ⟨l, lv, hgd, hrw, rfl, hca, hap, hcp⟩
 have HGD := Lib.hid hgd
 have HR3 := Lib.hid hrw
 have HB3 := Lib.hid (Apart.below HB2.out hap HGW.out)
 have HC3 := Lib.hid hca
 have HCP := Lib.hid hcp
 have hll := hgd.1
 obtain ⟨B, hB⟩ : ∃ B, w2.heap.size = B := ⟨_, rfl⟩
 rw [hB] at HR3 HGL
 clear hca hgd hap hrw hcp hB HC2 HB2
 obtain ⟨la, lc, rfl, _⟩ := id HR3.out
 go_wp2_with fail
 go_loopw [6, 24] (fun tv iv wr => ∃ (k : Nat) (t : List UInt8), tv = .string ⟨t.toArray⟩ ∧ iv = .int .i64 k ∧ k ≤ l.length ∧ t.length ≤ 2400 * k ∧ Hid (RW (fun k => B ≤ k) 2 DfR wr l (.slice la l.length lc)) ∧ Hid (CodesAt wr g) ∧ Hid (Below w.heap.size w wr)) (fun _ iv _ => l.length - (intOf iv).toNat)
 case atStart => exact ⟨0, [], rfl, rfl, Nat.zero_le _, by simp, HR3, HC3, HB3⟩
 case round =>
  obtain ⟨k, t, rfl, rfl, hkl, htl, HR, HC, HB⟩ := hrel
  clear HR3 HC3 HB3
  by_cases hlt : k < l.length
  ·obtain ⟨la', lc', eqv, _, hvk⟩ := DfAt.rw HR.out (by omega)
   obtain ⟨blk, off, eb, hbl, d0, d1⟩ := hvk k hlt
   obtain ⟨h1, h2⟩ := HGD.out.2 k hlt
   have h3 := h2.1
   injection eqv with e1 e2 e3
   subst e1
   obtain rfl : la = some ⟨blk, off, none⟩ := eb
   obtain ⟨n1, hn1⟩ : ∃ n1, l[k].1 = n1 := ⟨_, rfl⟩
   obtain ⟨s1, hs1⟩ : ∃ s1, l[k].2 = s1 := ⟨_, rfl⟩
   rw [hn1] at d0 h1
   rw [hs1] at d1 h3
   have i1 : (k : Int) < (l.length : Int) := by omega
   have i2 : (0 : Int) ≤ (k : Int) := by omega
   have hw1 : IntKind.i64.wrap ((k : Int) + 1) = (k : Int) + 1 := IntWalk.i64_in _ (by omega)
   have hal := alb wr (.cells #[.string ⟨n1.toArray⟩, .string ⟨s1.toArray⟩] 47)
   have HRA := Lib.hid (HR.out.go (stay_below hal) (fun _ _ h => h))
   have HCA := Lib.hid (HC.out.below hal)
   have HBA := Lib.hid (HB.out.trans (hal.mono HB.out.size))
   have HNW := Lib.hid (heap_alloc_new wr (.cells #[.string ⟨n1.toArray⟩, .string ⟨s1.toArray⟩] 47))
   have HLW : Hid (wr.heap.size < (wr.alloc (.cells #[.string ⟨n1.toArray⟩, .string ⟨s1.toArray⟩] 47)).heap.size) := Lib.hid (by simp)
   have HGN : Hid (wr.heap.size ≠ g) := Lib.hid (by have := HC.out.1; omega)
   clear hvk h2 hn1 hs1 hal HR HC HB e3
   go_upto_region 8 with fail
   obtain ⟨W1, hW1⟩ : ∃ W1, wr.alloc (.cells #[.string ⟨n1.toArray⟩, .string ⟨s1.toArray⟩] 47) = W1 := ⟨_, rfl⟩
   rw [hW1] at HRA HCA HBA HNW HLW ⊢
   obtain ⟨h, hh⟩ : ∃ h, wr.heap.size = h := ⟨_, rfl⟩
   rw [hh] at HNW HLW HGN ⊢
   have hI1 : LDI g h n1 s1 W1 W1 := ⟨HCA.out, HGN.out, HLW.out, Lib.cell_of_heap HNW.out 0, Lib.cell_of_heap HNW.out 1, Apart.refl _ _⟩
   have HI0 : Hid (LDI g h n1 s1 W1 W1.drew) := Lib.hid (hI1.go (Apart.of_below (Below.refl _ W1).drew HCA.out.1) (HCA.out.below (Below.refl _ W1).drew))
   clear hI1 hW1 hh d0 d1
   refine wp_region_slotsK (by rfl) (by kernel_rfl) (by kernel_rfl) 86 kpR (by kernel_rfl) 6 19 (by kernel_rfl) (by decide) (LDI g h n1 s1 W1) (Apart g) (LD t n1 s1 g h) (LD.keep t n1 s1 g h) (by rfl) ?_ ?_ HI0.out
   case refine_1 =>
    intro i o ho ac W D hk hi hcl hD hU hd K hK
    have hi20 : i < 20 := (Array.getElem?_eq_some_iff.1 ho).1
    have hs5 : ac.tmps.getD 5 undef = .pointer (some ⟨g, 0, none⟩) := (hk 5 (by decide)).trans rfl
    have hs8 : ac.tmps.getD 8 undef = .pointer (some ⟨h, 0, none⟩) := (hk 8 (by decide)).trans rfl
    have HI := Lib.hid hi
    have HKK := Lib.hid hK
    obtain ⟨_, _, _, e0, e1, _⟩ := HI.out
    clear hK hi hk
    rcases (show i = 0 ∨ i = 1 ∨ i = 2 ∨ i = 3 ∨ i = 4 ∨ i = 5 ∨ i = 6 ∨ i = 7 ∨ i = 8 ∨ i = 9 ∨ i = 10 ∨ i = 11 ∨ i = 12 ∨ i = 13 ∨ i = 14 ∨ i = 15 ∨ i = 16 ∨ i = 17 ∨ i = 18 ∨ i = 19 by omega) with rfl | rfl | rfl | rfl | rfl | rfl | rfl | rfl | rfl | rfl | rfl | rfl | rfl | rfl | rfl | rfl | rfl | rfl | rfl | rfl
    ·obtain rfl := Option.some.inj ho
     have h6 : ac.tmps.getD 6 undef = .string ⟨t.toArray⟩ := (hU (fun h => hD (hcl 18 _ rfl (hcl 19 _ rfl h ⟨18, .data⟩ (by simp) rfl) ⟨0, .data⟩ (by simp) rfl))).trans rfl
     go_simp
     exact HKK.out _ _ (Apart.refl g W) HI.out rfl
    ·obtain rfl := Option.some.inj ho
     go_simp
     exact HKK.out _ _ (Apart.refl g W) HI.out rfl
    ·obtain rfl := Option.some.inj ho
     go_simp
     exact HKK.out _ _ (HI.out.al _ _).2 (HI.out.al _ _).1 (SlR.new pk1 g W HI.out.1.1)
    ·obtain rfl := Option.some.inj ho
     have hd1 : ac.tmps.getD 29 undef = .pointer (some ⟨g, 0, none⟩) := hd ⟨1, .data⟩ (by simp) rfl
     obtain ⟨b, hdb, hbg, hbl, hbc⟩ : SlR pk1 g (ac.tmps.getD 30 undef) W := hd ⟨2, .data⟩ (by simp) rfl
     have HBC := Lib.hid hbc
     clear hbc
     go_simp
     refine (pick_any g b pk1.length pk1 W HI.out.1 hbg hbl HBC.out (by decide) (by decide)).mono ?_
     rintro e W2 ⟨k, hk, rfl, hca, hap⟩
     exact HKK.out _ _ hap (HI.out.go hap hca) ⟨pk1[k], rfl, pk1_len _ (List.getElem_mem hk)⟩
    ·obtain rfl := Option.some.inj ho
     go_simp
     exact HKK.out _ _ (Apart.refl g W) HI.out rfl
    ·obtain rfl := Option.some.inj ho
     have hd4 : ac.tmps.getD 32 undef = .pointer (some ⟨h, 0, none⟩) := hd ⟨4, .data⟩ (by simp) rfl
     go_simp
     exact HKK.out _ _ (Apart.refl g W) HI.out rfl
    ·obtain rfl := Option.some.inj ho
     obtain ⟨x, hd3, hl3⟩ : StU (ac.tmps.getD 31 undef) 4 := hd ⟨3, .data⟩ (by simp) rfl
     have hd5 : ac.tmps.getD 33 undef = .string ⟨n1.toArray⟩ := hd ⟨5, .data⟩ (by simp) rfl
     have hba := ba_app x n1
     have hn : ¬ 9223372036854775807 < x.length + n1.length := by omega
     go_simp
     exact HKK.out _ _ (Apart.refl g W) HI.out ⟨x ++ n1, by first | rfl | rw [hba], by rw [List.length_append]; omega⟩
    ·obtain rfl := Option.some.inj ho
     go_simp
     exact HKK.out _ _ (Apart.refl g W) HI.out rfl
    ·obtain rfl := Option.some.inj ho
     go_simp
     exact HKK.out _ _ (HI.out.al _ _).2 (HI.out.al _ _).1 (SlR.new pk2 g W HI.out.1.1)
    ·obtain rfl := Option.some.inj ho
     have hd7 : ac.tmps.getD 35 undef = .pointer (some ⟨g, 0, none⟩) := hd ⟨7, .data⟩ (by simp) rfl
     obtain ⟨b, hdb, hbg, hbl, hbc⟩ : SlR pk2 g (ac.tmps.getD 36 undef) W := hd ⟨8, .data⟩ (by simp) rfl
     have HBC := Lib.hid hbc
     clear hbc
     go_simp
     refine (pick_any g b pk2.length pk2 W HI.out.1 hbg hbl HBC.out (by decide) (by decide)).mono ?_
     rintro e W2 ⟨k, hk, rfl, hca, hap⟩
     exact HKK.out _ _ hap (HI.out.go hap hca) ⟨pk2[k], rfl, pk2_len _ (List.getElem_mem hk)⟩
    ·obtain rfl := Option.some.inj ho
     obtain ⟨x, hd6, hl6⟩ : StU (ac.tmps.getD 34 undef) 1100 := hd ⟨6, .data⟩ (by simp) rfl
     obtain ⟨y, hd9, hl9⟩ : StU (ac.tmps.getD 37 undef) 4 := hd ⟨9, .data⟩ (by simp) rfl
     have hba := ba_app x y
     have hn : ¬ 9223372036854775807 < x.length + y.length := by omega
     go_simp
     exact HKK.out _ _ (Apart.refl g W) HI.out ⟨x ++ y, by first | rfl | rw [hba], by rw [List.length_append]; omega⟩
    ·obtain rfl := Option.some.inj ho
     go_simp
     exact HKK.out _ _ (Apart.refl g W) HI.out rfl
    ·obtain rfl := Option.some.inj ho
     have hd11 : ac.tmps.getD 39 undef = .pointer (some ⟨h, 1, none⟩) := hd ⟨11, .data⟩ (by simp) rfl
     go_simp
     exact HKK.out _ _ (Apart.refl g W) HI.out rfl
    ·obtain rfl := Option.some.inj ho
     obtain ⟨x, hd10, hl10⟩ : StU (ac.tmps.getD 38 undef) 1200 := hd ⟨10, .data⟩ (by simp) rfl
     have hd12 : ac.tmps.getD 40 undef = .string ⟨s1.toArray⟩ := hd ⟨12, .data⟩ (by simp) rfl
     have hba := ba_app x s1
     have hn : ¬ 9223372036854775807 < x.length + s1.length := by omega
     go_simp
     exact HKK.out _ _ (Apart.refl g W) HI.out ⟨x ++ s1, by first | rfl | rw [hba], by rw [List.length_append]; omega⟩
    ·obtain rfl := Option.some.inj ho
     go_simp
     exact HKK.out _ _ (Apart.refl g W) HI.out rfl
    ·obtain rfl := Option.some.inj ho
     go_simp
     exact HKK.out _ _ (HI.out.al _ _).2 (HI.out.al _ _).1 (SlR.new pk3 g W HI.out.1.1)
    ·obtain rfl := Option.some.inj ho
     have hd14 : ac.tmps.getD 42 undef = .pointer (some ⟨g, 0, none⟩) := hd ⟨14, .data⟩ (by simp) rfl
     obtain ⟨b, hdb, hbg, hbl, hbc⟩ : SlR pk3 g (ac.tmps.getD 43 undef) W := hd ⟨15, .data⟩ (by simp) rfl
     have HBC := Lib.hid hbc
     clear hbc
     go_simp
     refine (pick_any g b pk3.length pk3 W HI.out.1 hbg hbl HBC.out (by decide) (by decide)).mono ?_
     rintro e W2 ⟨k, hk, rfl, hca, hap⟩
     exact HKK.out _ _ hap (HI.out.go hap hca) ⟨pk3[k], rfl, pk3_len _ (List.getElem_mem hk)⟩
    ·obtain rfl := Option.some.inj ho
     obtain ⟨x, hd13, hl13⟩ : StU (ac.tmps.getD 41 undef) 2300 := hd ⟨13, .data⟩ (by simp) rfl
     obtain ⟨y, hd16, hl16⟩ : StU (ac.tmps.getD 44 undef) 4 := hd ⟨16, .data⟩ (by simp) rfl
     have hba := ba_app x y
     have hn : ¬ 9223372036854775807 < x.length + y.length := by omega
     go_simp
     exact HKK.out _ _ (Apart.refl g W) HI.out ⟨x ++ y, by first | rfl | rw [hba], by rw [List.length_append]; omega⟩
    ·obtain rfl := Option.some.inj ho
     have hd0 : ac.tmps.getD 28 undef = .string ⟨t.toArray⟩ := hd ⟨0, .data⟩ (by simp) rfl
     obtain ⟨y, hd17, hl17⟩ : StU (ac.tmps.getD 45 undef) 2400 := hd ⟨17, .data⟩ (by simp) rfl
     have hba := ba_app t y
     have hn : ¬ 9223372036854775807 < t.length + y.length := by omega
     go_simp
     exact HKK.out _ _ (Apart.refl g W) HI.out ⟨t ++ y, by first | rfl | rw [hba], by rw [List.length_append]; omega⟩
    ·obtain rfl := Option.some.inj ho
     obtain ⟨x, hd18, hl18⟩ : StU (ac.tmps.getD 46 undef) (t.length + 2400) := hd ⟨18, .data⟩ (by simp) rfl
     go_simp
     exact HKK.out _ _ (Apart.refl g W) HI.out ⟨x, rfl, hl18⟩
   case refine_2 =>
    intro ac W hsz hdf hk hi hG
    obtain ⟨x6, h6, hx6⟩ : StU (ac.tmps.getD 6 undef) (t.length + 2400) := hG 19 (by decide)
    have HIE := Lib.hid hi
    have hkk : ∀ s, s ∈ kpR → _ := hk
    obtain ⟨tm, df⟩ := ac
    obtain ⟨x0, x1, x2, x3, x4, x5, x6_, x7, x8, x9, x10, x11, x12, x13, x14, x15, x16, x17, x18, x19, x20, x21, x22, x23, x24, x25, x26, x27, x28, x29, x30, x31, x32, x33, x34, x35, x36, x37, x38, x39, x40, x41, x42, x43, x44, x45, x46, x47, x48, x49, x50, x51, x52, x53, x54, x55, x56, x57, x58, x59, x60, x61, x62, x63, x64, x65, x66, x67, x68, x69, x70, x71, x72, x73, x74, x75, x76, x77, x78, x79, x80, x81, x82, x83, x84, x85, rfl⟩ := arr86 tm hsz
    obtain rfl : df = [] := hdf
    obtain rfl : x6_ = .string ⟨x6.toArray⟩ := h6
    have k0 := hk 0 (by decide)
    change x0 = _ at k0
    have k1 := hk 1 (by decide)
    change x1 = _ at k1
    have k2 := hk 2 (by decide)
    change x2 = _ at k2
    have k3 := hk 3 (by decide)
    change x3 = _ at k3
    have k4 := hk 4 (by decide)
    change x4 = _ at k4
    have k5 := hk 5 (by decide)
    change x5 = _ at k5
    have k7 := hk 7 (by decide)
    change x7 = _ at k7
    have k8 := hk 8 (by decide)
    change x8 = _ at k8
    have k9 := hk 9 (by decide)
    change x9 = _ at k9
    have k10 := hk 10 (by decide)
    change x10 = _ at k10
    have k11 := hk 11 (by decide)
    change x11 = _ at k11
    have k12 := hk 12 (by decide)
    change x12 = _ at k12
    have k13 := hk 13 (by decide)
    change x13 = _ at k13
    have k14 := hk 14 (by decide)
    change x14 = _ at k14
    have k15 := hk 15 (by decide)
    change x15 = _ at k15
    have k16 := hk 16 (by decide)
    change x16 = _ at k16
    have k17 := hk 17 (by decide)
    change x17 = _ at k17
    have k18 := hk 18 (by decide)
    change x18 = _ at k18
    have k19 := hk 19 (by decide)
    change x19 = _ at k19
    have k20 := hk 20 (by decide)
    change x20 = _ at k20
    have k21 := hk 21 (by decide)
    change x21 = _ at k21
    have k22 := hk 22 (by decide)
    change x22 = _ at k22
    have k23 := hk 23 (by decide)
    change x23 = _ at k23
    have k24 := hk 24 (by decide)
    change x24 = _ at k24
    have k25 := hk 25 (by decide)
    change x25 = _ at k25
    have k26 := hk 26 (by decide)
    change x26 = _ at k26
    have k27 := hk 27 (by decide)
    change x27 = _ at k27
    have k47 := hk 47 (by decide)
    change x47 = _ at k47
    have k48 := hk 48 (by decide)
    change x48 = _ at k48
    have k49 := hk 49 (by decide)
    change x49 = _ at k49
    have k50 := hk 50 (by decide)
    change x50 = _ at k50
    have k51 := hk 51 (by decide)
    change x51 = _ at k51
    have k52 := hk 52 (by decide)
    change x52 = _ at k52
    have k53 := hk 53 (by decide)
    change x53 = _ at k53
    have k54 := hk 54 (by decide)
    change x54 = _ at k54
    have k55 := hk 55 (by decide)
    change x55 = _ at k55
    have k56 := hk 56 (by decide)
    change x56 = _ at k56
    have k57 := hk 57 (by decide)
    change x57 = _ at k57
    have k58 := hk 58 (by decide)
    change x58 = _ at k58
    have k59 := hk 59 (by decide)
    change x59 = _ at k59
    have k60 := hk 60 (by decide)
    change x60 = _ at k60
    have k61 := hk 61 (by decide)
    change x61 = _ at k61
    have k62 := hk 62 (by decide)
    change x62 = _ at k62
    have k63 := hk 63 (by decide)
    change x63 = _ at k63
    have k64 := hk 64 (by decide)
    change x64 = _ at k64
    have k65 := hk 65 (by decide)
    change x65 = _ at k65
    have k66 := hk 66 (by decide)
    change x66 = _ at k66
    have k67 := hk 67 (by decide)
    change x67 = _ at k67
    have k68 := hk 68 (by decide)
    change x68 = _ at k68
    have k69 := hk 69 (by decide)
    change x69 = _ at k69
    have k70 := hk 70 (by decide)
    change x70 = _ at k70
    have k71 := hk 71 (by decide)
    change x71 = _ at k71
    have k72 := hk 72 (by decide)
    change x72 = _ at k72
    have k73 := hk 73 (by decide)
    change x73 = _ at k73
    have k74 := hk 74 (by decide)
    change x74 = _ at k74
    have k75 := hk 75 (by decide)
    change x75 = _ at k75
    have k76 := hk 76 (by decide)
    change x76 = _ at k76
    have k77 := hk 77 (by decide)
    change x77 = _ at k77
    have k78 := hk 78 (by decide)
    change x78 = _ at k78
    have k79 := hk 79 (by decide)
    change x79 = _ at k79
    have k80 := hk 80 (by decide)
    change x80 = _ at k80
    have k81 := hk 81 (by decide)
    change x81 = _ at k81
    have k82 := hk 82 (by decide)
    change x82 = _ at k82
    have k83 := hk 83 (by decide)
    change x83 = _ at k83
    have k84 := hk 84 (by decide)
    change x84 = _ at k84
    have k85 := hk 85 (by decide)
    change x85 = _ at k85
    clear hk hkk hG hi hsz
    subst k0 k1 k2 k3 k4 k5 k7 k8 k9 k10 k11 k12 k13 k14 k15 k16 k17 k18 k19 k20 k21 k22 k23 k24 k25 k26 k27 k47 k48 k49 k50 k51 k52 k53 k54 k55 k56 k57 k58 k59 k60 k61 k62 k63 k64 k65 k66 k67 k68 k69 k70 k71 k72 k73 k74 k75 k76 k77 k78 k79 k80 k81 k82 k83 k84 k85
    have HR2 := Lib.hid (HRA.out.go (stay_apart HIE.out.2.2.2.2.2 HGL.out) (fun _ _ h => h))
    have HC2 := Lib.hid HIE.out.1
    have HB2 := Lib.hid (Apart.below HBA.out HIE.out.2.2.2.2.2 HGW.out)
    clear HIE HRA HCA HBA HNW HLW HGN HI0
    go_wp2_with fail
    refine ⟨⟨_, _, _, ⟨k + 1, x6, rfl, rfl, by omega, by omega⟩, rfl, rfl, by first | rfl | go_num⟩, by simp [intOf]; omega⟩
  ·have z1 : decide ((k : Int) < (l.length : Int)) = false := decide_eq_false (by omega)
   have y1 : decide (k < l.length) = false := decide_eq_false hlt
   have xx := ba_app t s0
   have hlx : (t ++ s0).length ≤ 140737488451232 := by rw [List.length_append]; omega
   obtain ⟨x4, hx4⟩ : ∃ x4, t ++ s0 = x4 := ⟨_, rfl⟩
   rw [hx4] at xx hlx
   clear hx4
   have htl2 : t.length ≤ 100000 := by omega
   obtain ⟨rows, hrows⟩ : ∃ rows : List (List UInt8), rows = [s0, t, x4] := ⟨_, rfl⟩
   have hr3 : rows.length = 3 := by rw [hrows]; rfl
   have hbW := al_below wr (.cells #[.string ⟨s0.toArray⟩, .string ⟨t.toArray⟩, .string ⟨x4.toArray⟩] 9)
   have HBW := Lib.hid (HB.out.trans (hbW.mono HB.out.size))
   have HCW : Hid (∀ i (h : i < rows.length), (wr.alloc (.cells #[.string ⟨s0.toArray⟩, .string ⟨t.toArray⟩, .string ⟨x4.toArray⟩] 9)).cell? ⟨wr.heap.size, i, none⟩ = some (.string ⟨(rows[i]).toArray⟩)) := Lib.hid (by
    subst hrows
    intro i hi
    rw [Lib.cell_of_heap (heap_alloc_new wr _)]
    match i, hi with
    | 0, _ => rfl
    | 1, _ => rfl
    | 2, _ => rfl)
   have HLT : Hid (wr.heap.size < (wr.alloc (.cells #[.string ⟨s0.toArray⟩, .string ⟨t.toArray⟩, .string ⟨x4.toArray⟩] 9)).heap.size) := Lib.hid (by simp)
   clear hbW HB HR HC hrows
   go_wp2_with fail
   obtain ⟨W0, hW0⟩ : ∃ W0, wr.alloc (.cells #[.string ⟨s0.toArray⟩, .string ⟨t.toArray⟩, .string ⟨x4.toArray⟩] 9) = W0 := ⟨_, rfl⟩
   rw [hW0] at HBW HCW HLT ⊢
   obtain ⟨q, hq⟩ : ∃ q, wr.heap.size = q := ⟨_, rfl⟩
   rw [hq] at HCW HLT ⊢
   clear hW0 hq xx hlx
   go_loopw [55] (fun i wx => ∃ k : Nat, i = .int .i64 k ∧ k ≤ 3 ∧ Hid (Below W0.heap.size W0 wx)) (fun i _ => 3 - (intOf i).toNat)
   case atStart => exact ⟨0, rfl, Nat.zero_le _, Lib.hid (Below.refl _ _)⟩
   case round =>
    obtain ⟨k, rfl, hkl, HB⟩ := hrel
    clear z1 y1 hlt
    have HBr := Lib.hid (HBW.out.trans (HB.out.mono HBW.out.size))
    by_cases hlt : k < 3
    ·have i1 : (k : Int) < 3 := by omega
     have i2 : (0 : Int) ≤ (k : Int) := by omega
     have hw1 : IntKind.i64.wrap ((k : Int) + 1) = (k : Int) + 1 := IntWalk.i64_in _ (by omega)
     have c0 := (HB.out.cell (p := ⟨q, k, none⟩) HLT.out).trans (HCW.out k (by omega))
     obtain ⟨s, hs⟩ : ∃ s, rows[k]'(by omega) = s := ⟨_, rfl⟩
     rw [hs] at c0
     clear hs
     have HE1 := Lib.hid (lparse_v s wr (HK.out.below HBr.out))
     obtain ⟨m, hm⟩ : ∃ m, (plV s).1 = m := ⟨_, rfl⟩
     obtain ⟨n, hn⟩ : ∃ n, (plV s).2.1 = n := ⟨_, rfl⟩
     obtain ⟨E, hE⟩ : ∃ E, (plV s).2.2 = E := ⟨_, rfl⟩
     have HM := Lib.hid hm
     have HN := Lib.hid hn
     have HE := Lib.hid hE
     clear hm hn hE
     go_wp2_with fail
     refine HE1.out.mono ?_
     rintro e w1 ⟨a1, c1, rfl, hd1, hb⟩
     rw [HM.out, HN.out, HE.out]
     rw [HM.out] at hd1
     have HX1 := Lib.hid (HB.out.trans (hb.mono HB.out.size))
     have HD1 := Lib.hid hd1
     clear hb hd1 HE1 c0
     have HE2 := Lib.hid (rlparse_v s w1)
     go_wp2_with fail
     refine HE2.out.mono ?_
     rintro e w2 ⟨a2, c2, rfl, hd2, hb⟩
     rw [HM.out, HN.out, HE.out]
     rw [HM.out] at hd2
     have HX2 := Lib.hid (HX1.out.trans (hb.mono HX1.out.size))
     have HD2 := Lib.hid (HD1.out.later hb)
     have HD3 := Lib.hid hd2
     clear hb hd2 HE2 HX1 HD1
     have HSA := Lib.hid (lsame_any m _ _ w2 HD2.out HD3.out)
     go_wp2_with fail
     refine HSA.out.mono ?_
     rintro e w3 ⟨rfl, hb⟩
     have HX3 := Lib.hid (HX2.out.trans (hb.mono HX2.out.size))
     clear hb HSA HX2 HD2 HD3
     go_wp2_with fail
     refine ⟨⟨k + 1, by go_num, by omega, HX3⟩, by simp [intOf]; omega⟩
    ·obtain rfl : k = 3 := by omega
     go_wp2_with fail
     go_ret
     exact ⟨rfl, HBr.out⟩
end Go.Proofs.YtgcpinnnfoanjaaGreatDoor

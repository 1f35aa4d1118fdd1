/-
 Joined: PzH, PzI, PzJ, PzK, MtCn, MtCq, Laid, LaidMat, Stay, OpenB, MtCr.
-/
import Derived.Test.YtihdnlpelfgklaaDoorMcL
import Derived.Test.YtihdnlpelfgklaaDoorMcI
import Derived.Test.YtihdnlpelfgklaaDoorMcJ
import Derived.Test.YtihdnlpelfgklaaDoorCards
import Derived.Test.YtihdnlpelfgklaaDoorTie
import Derived.WalkKit
import Derived.ProofKit
import Derived.OpenShut
import Derived.Deep.DeepHandedRow
import Derived.Lib.LaidTab
import Derived.Stop.LaidErr
import Derived.Test.YtihdnlpelfgklaaDoorMcC
import Derived.Lib.QuietBelow
import Derived.Lib.AppendIntMem
import Derived.ChangeStays
import Derived.ChangeBears
import Derived.Below
import Derived.Test.YtihdnlpelfgklaaDoorMcA
import Derived.ChangeSlices
namespace Go.Proofs.YtihdnlpelfgklaaDoor
open Go.RowKit
set_option maxHeartbeats 4000000 in
set_option maxRecDepth 1000000 in
theorem atomz_group (b : Nat) (l : List UInt8) (i : Nat) (r : Out NT) (hc : Asc.at_ l i = 40) (hg : RdZ 76 b l (i + 1) r) : RdZ 69 b l i r := by
 intro w h
 have HT : Hid (∀ d : Nat, d < 256 → Asc.at_ l i ≠ d → ∀ W, ZS b l i 0 W → Calls Tryd.prog 38 #[.pointer (some ⟨b, 0, none⟩), .int .u8 (d : Int)] W fun r w' => r = .returned (.bool false) ∧ ZQ b l i 0 W w') := Lib.hid (fun d _ hd W hW => ztakes_no b l i 0 W hW d hd)
 have HS := Lib.hid (ZR.start h)
 have HC := Lib.hid hc
 have HY := Lib.hid fun W (hW : ZS b l i 0 W) => ztakes_yes b l i W hW 40 hc (by decide)
 have HN := Lib.hid fun W (hW : ZS b l i 0 W) => znext_ok b l i W hW 40 hc (by decide)
 clear hc
 have HG := Lib.hid hg
 clear hg
 clear h
 go_enter Tryd.func69, Tryd.ntmps69
 go_wp2_with fail
 refine (HN.out _ HS.out.ps).mono ?_
 rintro e w1 ⟨rfl, hq⟩
 have HS1 := Lib.hid (HS.out.go hq)
 clear hq HS
 go_wp2_with fail
 refine (HY.out _ HS1.out.ps).mono ?_
 rintro e wy ⟨rfl, hq⟩
 have HSy := Lib.hid (HS1.out.go hq)
 clear hq HS1
 go_wp2_with fail
 refine (HG.out _ HSy.out.ps).mono ?_
 rintro e wz ⟨v, t, j, e2, rfl, hT, hb, hr⟩
 have HSz := Lib.hid (HSy.out.go hb)
 have HTz := Lib.hid (hT.up HSy.out.sz)
 have HR := Lib.hid hr
 obtain ⟨op, rs, nm, kids, mn, mx, ra, rc, a, cc, ht, rfl, _⟩ := hT.open
 clear hT hb ht hr
 obtain ⟨k0, k1, k2, k3, k4, k5, f0, f1, f2, f3, f4, f5⟩ := bk6 HSz.out.bk
 go_wp2_with fail
 rw [nest6 wz]
 exact node_retz (P := 2) rfl HSz.out _ _ rfl (by rfl) HTz.out HR.out
set_option maxHeartbeats 4000000 in
set_option maxRecDepth 1000000 in
theorem atomz_bra (b : Nat) (l : List UInt8) (i : Nat) (r : Out NT) (hc : Asc.at_ l i = 91) (hg : RdZ 77 b l (i + 1) r) : RdZ 69 b l i r := by
 intro w h
 have HT : Hid (∀ d : Nat, d < 256 → Asc.at_ l i ≠ d → ∀ W, ZS b l i 0 W → Calls Tryd.prog 38 #[.pointer (some ⟨b, 0, none⟩), .int .u8 (d : Int)] W fun r w' => r = .returned (.bool false) ∧ ZQ b l i 0 W w') := Lib.hid (fun d _ hd W hW => ztakes_no b l i 0 W hW d hd)
 have HS := Lib.hid (ZR.start h)
 have HC := Lib.hid hc
 have HY := Lib.hid fun W (hW : ZS b l i 0 W) => ztakes_yes b l i W hW 91 hc (by decide)
 have HN := Lib.hid fun W (hW : ZS b l i 0 W) => znext_ok b l i W hW 91 hc (by decide)
 clear hc
 have HG := Lib.hid hg
 clear hg
 clear h
 go_enter Tryd.func69, Tryd.ntmps69
 go_wp2_with fail
 refine (HN.out _ HS.out.ps).mono ?_
 rintro e w1 ⟨rfl, hq⟩
 have HS1 := Lib.hid (HS.out.go hq)
 clear hq HS
 go_wp2_with fail
 refine (HT.out 40 (by decide) (by rw [HC.out]; decide) _ HS1.out.ps).mono ?_
 rintro e w2 ⟨rfl, hq⟩
 have HS2 := Lib.hid (HS1.out.go hq)
 clear hq HS1
 go_wp2_with fail
 refine (HY.out _ HS2.out.ps).mono ?_
 rintro e wy ⟨rfl, hq⟩
 have HSy := Lib.hid (HS2.out.go hq)
 clear hq HS2
 go_wp2_with fail
 refine (HG.out _ HSy.out.ps).mono ?_
 rintro e wz ⟨v, t, j, e2, rfl, hT, hb, hr⟩
 have HSz := Lib.hid (HSy.out.go hb)
 have HTz := Lib.hid (hT.up HSy.out.sz)
 have HR := Lib.hid hr
 obtain ⟨op, rs, nm, kids, mn, mx, ra, rc, a, cc, ht, rfl, _⟩ := hT.open
 clear hT hb ht hr
 obtain ⟨k0, k1, k2, k3, k4, k5, f0, f1, f2, f3, f4, f5⟩ := bk6 HSz.out.bk
 go_wp2_with fail
 rw [nest6 wz]
 exact node_retz (P := 2) rfl HSz.out _ _ rfl (by rfl) HTz.out HR.out
set_option maxHeartbeats 4000000 in
set_option maxRecDepth 1000000 in
theorem atomz_dot (b : Nat) (l : List UInt8) (i : Nat) (hc : Asc.at_ l i = 46) : RdZ 69 b l i (.ok (clsT (fun c => !spanF 10 11 c), i + 1)) := by
 intro w h
 have HT : Hid (∀ d : Nat, d < 256 → Asc.at_ l i ≠ d → ∀ W, ZS b l i 0 W → Calls Tryd.prog 38 #[.pointer (some ⟨b, 0, none⟩), .int .u8 (d : Int)] W fun r w' => r = .returned (.bool false) ∧ ZQ b l i 0 W w') := Lib.hid (fun d _ hd W hW => ztakes_no b l i 0 W hW d hd)
 have HS := Lib.hid (ZR.start h)
 have HC := Lib.hid hc
 have HY := Lib.hid fun W (hW : ZS b l i 0 W) => ztakes_yes b l i W hW 46 hc (by decide)
 have HN := Lib.hid fun W (hW : ZS b l i 0 W) => znext_ok b l i W hW 46 hc (by decide)
 clear hc
 have HSN := Lib.hid (fun W => (show Calls Tryd.prog 78 #[.int .u8 10, .int .u8 10] W (fun e w' => e = .returned (.agg (setA (spanF 10 11))) ∧ Below W.heap.size W w') from span_any 10 10 W))
 clear h
 go_enter Tryd.func69, Tryd.ntmps69
 go_wp2_with fail
 refine (HN.out _ HS.out.ps).mono ?_
 rintro e w1 ⟨rfl, hq⟩
 have HS1 := Lib.hid (HS.out.go hq)
 clear hq HS
 go_wp2_with fail
 refine (HT.out 40 (by decide) (by rw [HC.out]; decide) _ HS1.out.ps).mono ?_
 rintro e w2 ⟨rfl, hq⟩
 have HS2 := Lib.hid (HS1.out.go hq)
 clear hq HS1
 go_wp2_with fail
 refine (HT.out 91 (by decide) (by rw [HC.out]; decide) _ HS2.out.ps).mono ?_
 rintro e w3 ⟨rfl, hq⟩
 have HS3 := Lib.hid (HS2.out.go hq)
 clear hq HS2
 go_wp2_with fail
 refine (HY.out _ HS3.out.ps).mono ?_
 rintro e wy ⟨rfl, hq⟩
 have HSy := Lib.hid (HS3.out.go hq)
 clear hq HS3
 go_wp2_with fail
 refine (HSN.out _).mono ?_
 rintro e wa ⟨rfl, hb⟩
 have HSa := Lib.hid (HSy.out.on hb)
 clear hb HSy
 go_wp2_with fail
 refine (not_any _ _).mono ?_
 rintro e wb ⟨rfl, hb⟩
 have HSx := Lib.hid (HSa.out.on hb)
 clear hb HSa
 go_wp2_with fail
 refine (class_any _ _).mono ?_
 rintro e wz ⟨v, rfl, hT, hb⟩
 have HSz := Lib.hid (HSx.out.on hb)
 have HTz := Lib.hid (hT.up HSx.out.sz)
 obtain ⟨op, rs, nm, kids, mn, mx, ra, rc, a, cc, ht, rfl, _⟩ := hT.open
 clear hT hb ht
 obtain ⟨k0, k1, k2, k3, k4, k5, f0, f1, f2, f3, f4, f5⟩ := bk6 HSz.out.bk
 go_wp2_with fail
 rw [nest6 wz]
 exact node_retz (P := 2) rfl HSz.out _ _ rfl (by rfl) HTz.out fits_ok
set_option maxHeartbeats 4000000 in
set_option maxRecDepth 1000000 in
theorem atomz_beg (b : Nat) (l : List UInt8) (i : Nat) (hc : Asc.at_ l i = 94) : RdZ 69 b l i (.ok (.node 6 [] [] [] 0 0, i + 1)) := by
 intro w h
 have HT : Hid (∀ d : Nat, d < 256 → Asc.at_ l i ≠ d → ∀ W, ZS b l i 0 W → Calls Tryd.prog 38 #[.pointer (some ⟨b, 0, none⟩), .int .u8 (d : Int)] W fun r w' => r = .returned (.bool false) ∧ ZQ b l i 0 W w') := Lib.hid (fun d _ hd W hW => ztakes_no b l i 0 W hW d hd)
 have HS := Lib.hid (ZR.start h)
 have HC := Lib.hid hc
 have HY := Lib.hid fun W (hW : ZS b l i 0 W) => ztakes_yes b l i W hW 94 hc (by decide)
 have HN := Lib.hid fun W (hW : ZS b l i 0 W) => znext_ok b l i W hW 94 hc (by decide)
 clear hc
 clear h
 go_enter Tryd.func69, Tryd.ntmps69
 go_wp2_with fail
 refine (HN.out _ HS.out.ps).mono ?_
 rintro e w1 ⟨rfl, hq⟩
 have HS1 := Lib.hid (HS.out.go hq)
 clear hq HS
 go_wp2_with fail
 refine (HT.out 40 (by decide) (by rw [HC.out]; decide) _ HS1.out.ps).mono ?_
 rintro e w2 ⟨rfl, hq⟩
 have HS2 := Lib.hid (HS1.out.go hq)
 clear hq HS1
 go_wp2_with fail
 refine (HT.out 91 (by decide) (by rw [HC.out]; decide) _ HS2.out.ps).mono ?_
 rintro e w3 ⟨rfl, hq⟩
 have HS3 := Lib.hid (HS2.out.go hq)
 clear hq HS2
 go_wp2_with fail
 refine (HT.out 46 (by decide) (by rw [HC.out]; decide) _ HS3.out.ps).mono ?_
 rintro e w4 ⟨rfl, hq⟩
 have HS4 := Lib.hid (HS3.out.go hq)
 clear hq HS3
 go_wp2_with fail
 refine (HY.out _ HS4.out.ps).mono ?_
 rintro e wy ⟨rfl, hq⟩
 have HSy := Lib.hid (HS4.out.go hq)
 clear hq HS4
 obtain ⟨k0, k1, k2, k3, k4, k5, f0, f1, f2, f3, f4, f5⟩ := bk6 HSy.out.bk
 go_wp2_with fail
 rw [nest6]
 exact node_retz (P := 2) rfl HSy.out _ _ rfl (by rfl) (NG.node (rs := []) (kids := []) RW.nil RW.nil 6 [] 0 0 (by simp)) fits_ok
set_option maxHeartbeats 4000000 in
set_option maxRecDepth 1000000 in
theorem atomz_end (b : Nat) (l : List UInt8) (i : Nat) (hc : Asc.at_ l i = 36) : RdZ 69 b l i (.ok (.node 7 [] [] [] 0 0, i + 1)) := by
 intro w h
 have HT : Hid (∀ d : Nat, d < 256 → Asc.at_ l i ≠ d → ∀ W, ZS b l i 0 W → Calls Tryd.prog 38 #[.pointer (some ⟨b, 0, none⟩), .int .u8 (d : Int)] W fun r w' => r = .returned (.bool false) ∧ ZQ b l i 0 W w') := Lib.hid (fun d _ hd W hW => ztakes_no b l i 0 W hW d hd)
 have HS := Lib.hid (ZR.start h)
 have HC := Lib.hid hc
 have HY := Lib.hid fun W (hW : ZS b l i 0 W) => ztakes_yes b l i W hW 36 hc (by decide)
 have HN := Lib.hid fun W (hW : ZS b l i 0 W) => znext_ok b l i W hW 36 hc (by decide)
 clear hc
 clear h
 go_enter Tryd.func69, Tryd.ntmps69
 go_wp2_with fail
 refine (HN.out _ HS.out.ps).mono ?_
 rintro e w1 ⟨rfl, hq⟩
 have HS1 := Lib.hid (HS.out.go hq)
 clear hq HS
 go_wp2_with fail
 refine (HT.out 40 (by decide) (by rw [HC.out]; decide) _ HS1.out.ps).mono ?_
 rintro e w2 ⟨rfl, hq⟩
 have HS2 := Lib.hid (HS1.out.go hq)
 clear hq HS1
 go_wp2_with fail
 refine (HT.out 91 (by decide) (by rw [HC.out]; decide) _ HS2.out.ps).mono ?_
 rintro e w3 ⟨rfl, hq⟩
 have HS3 := Lib.hid (HS2.out.go hq)
 clear hq HS2
 go_wp2_with fail
 refine (HT.out 46 (by decide) (by rw [HC.out]; decide) _ HS3.out.ps).mono ?_
 rintro e w4 ⟨rfl, hq⟩
 have HS4 := Lib.hid (HS3.out.go hq)
 clear hq HS3
 go_wp2_with fail
 refine (HT.out 94 (by decide) (by rw [HC.out]; decide) _ HS4.out.ps).mono ?_
 rintro e w5 ⟨rfl, hq⟩
 have HS5 := Lib.hid (HS4.out.go hq)
 clear hq HS4
 go_wp2_with fail
 refine (HY.out _ HS5.out.ps).mono ?_
 rintro e wy ⟨rfl, hq⟩
 have HSy := Lib.hid (HS5.out.go hq)
 clear hq HS5
 obtain ⟨k0, k1, k2, k3, k4, k5, f0, f1, f2, f3, f4, f5⟩ := bk6 HSy.out.bk
 go_wp2_with fail
 rw [nest6]
 exact node_retz (P := 2) rfl HSy.out _ _ rfl (by rfl) (NG.node (rs := []) (kids := []) RW.nil RW.nil 7 [] 0 0 (by simp)) fits_ok
set_option maxHeartbeats 4000000 in
set_option maxRecDepth 1000000 in
theorem atomz_esc (b : Nat) (l : List UInt8) (i : Nat) (r : Out NT) (hres : ∀ s c one j e, fits (escM l (i + 1)) (s, c, one) j e → fits r (clsT s) j e) (hc : Asc.at_ l i = 92) : RdZ 69 b l i r := by
 intro w h
 have HT : Hid (∀ d : Nat, d < 256 → Asc.at_ l i ≠ d → ∀ W, ZS b l i 0 W → Calls Tryd.prog 38 #[.pointer (some ⟨b, 0, none⟩), .int .u8 (d : Int)] W fun r w' => r = .returned (.bool false) ∧ ZQ b l i 0 W w') := Lib.hid (fun d _ hd W hW => ztakes_no b l i 0 W hW d hd)
 have HS := Lib.hid (ZR.start h)
 have HC := Lib.hid hc
 have HY := Lib.hid fun W (hW : ZS b l i 0 W) => ztakes_yes b l i W hW 92 hc (by decide)
 have HN := Lib.hid fun W (hW : ZS b l i 0 W) => znext_ok b l i W hW 92 hc (by decide)
 clear hc
 have HRES := Lib.hid hres
 clear hres
 have HE := Lib.hid fun W (hW : ZS b l (i + 1) 0 W) => esc_any b l (i + 1) W hW
 have hv := (zero_of_info infoS).1
 clear h
 go_enter Tryd.func69, Tryd.ntmps69
 go_wp2_with fail
 refine (HN.out _ HS.out.ps).mono ?_
 rintro e w1 ⟨rfl, hq⟩
 have HS1 := Lib.hid (HS.out.go hq)
 clear hq HS
 go_wp2_with fail
 refine (HT.out 40 (by decide) (by rw [HC.out]; decide) _ HS1.out.ps).mono ?_
 rintro e w2 ⟨rfl, hq⟩
 have HS2 := Lib.hid (HS1.out.go hq)
 clear hq HS1
 go_wp2_with fail
 refine (HT.out 91 (by decide) (by rw [HC.out]; decide) _ HS2.out.ps).mono ?_
 rintro e w3 ⟨rfl, hq⟩
 have HS3 := Lib.hid (HS2.out.go hq)
 clear hq HS2
 go_wp2_with fail
 refine (HT.out 46 (by decide) (by rw [HC.out]; decide) _ HS3.out.ps).mono ?_
 rintro e w4 ⟨rfl, hq⟩
 have HS4 := Lib.hid (HS3.out.go hq)
 clear hq HS3
 go_wp2_with fail
 refine (HT.out 94 (by decide) (by rw [HC.out]; decide) _ HS4.out.ps).mono ?_
 rintro e w5 ⟨rfl, hq⟩
 have HS5 := Lib.hid (HS4.out.go hq)
 clear hq HS4
 go_wp2_with fail
 refine (HT.out 36 (by decide) (by rw [HC.out]; decide) _ HS5.out.ps).mono ?_
 rintro e w6 ⟨rfl, hq⟩
 have HS6 := Lib.hid (HS5.out.go hq)
 clear hq HS5
 go_wp2_with fail
 refine (HY.out _ HS6.out.ps).mono ?_
 rintro e wy ⟨rfl, hq⟩
 have HSy := Lib.hid (HS6.out.go hq)
 clear hq HS6
 go_wp2_with fail
 refine (HE.out _ HSy.out.ps).mono ?_
 rintro e we ⟨s, c, one, j, e2, rfl, hq, hc8, hr⟩
 have HSe := Lib.hid (HSy.out.go hq)
 have HR := Lib.hid (HRES.out _ _ _ _ _ hr)
 clear hq HSy hr hc8
 have hpn := put_new we (fun _ => false) s 126
 rw [setA_false] at hpn
 have HSx := Lib.hid (HSe.out.on (al_below we (.cells (setA s) 126)))
 have hsb := SB.new we s
 go_wp2_with (refine wpl_load_set rfl _ rfl we.heap.size rfl _ hsb ?_)
 clear hsb hpn
 refine (class_any _ _).mono ?_
 rintro e wz ⟨v, rfl, hT, hb⟩
 have HSz := Lib.hid (HSx.out.on hb)
 have HTz := Lib.hid (hT.up HSx.out.sz)
 obtain ⟨op, rs, nm, kids, mn, mx, ra, rc, a, cc, ht, rfl, _⟩ := hT.open
 clear hT hb ht
 obtain ⟨k0, k1, k2, k3, k4, k5, f0, f1, f2, f3, f4, f5⟩ := bk6 HSz.out.bk
 go_wp2_with fail
 rw [nest6 wz]
 exact node_retz (P := 2) rfl HSz.out _ _ rfl (by rfl) HTz.out HR.out
set_option maxHeartbeats 4000000 in
set_option maxRecDepth 1000000 in
theorem atomz_plain (b : Nat) (l : List UInt8) (i : Nat) (c : UInt8) (hc : Asc.at_ l i = c.toNat) (hnn : ∀ d : UInt8, d ∈ [40, 91, 46, 94, 36, 92] → d ≠ c) (hs : c ∉ spec) (h1 : 32 ≤ c.toNat) (h2 : c.toNat ≤ 126) : RdZ 69 b l i (.ok (clsT (spanF c.toNat (c.toNat + 1)), i + 1)) := by
 intro w h
 have HT : Hid (∀ d : Nat, d < 256 → Asc.at_ l i ≠ d → ∀ W, ZS b l i 0 W → Calls Tryd.prog 38 #[.pointer (some ⟨b, 0, none⟩), .int .u8 (d : Int)] W fun r w' => r = .returned (.bool false) ∧ ZQ b l i 0 W w') := Lib.hid (fun d _ hd W hW => ztakes_no b l i 0 W hW d hd)
 have HS := Lib.hid (ZR.start h)
 have hc8 : c.toNat < 256 := UInt8.toNat_lt c
 have HN := Lib.hid fun W (hW : ZS b l i 0 W) => znext_ok b l i W hW c.toNat hc hc8
 have HNE : Hid (∀ d : UInt8, d ∈ [40, 91, 46, 94, 36, 92] → Asc.at_ l i ≠ d.toNat) := Lib.hid (fun d hd e => hnn d hd (UInt8.toNat_inj.1 (e.symm.trans hc)))
 have hl : i < l.length := Asc.at_lt (by omega)
 have hl2 := h.len
 have hw : IntKind.i64.wrap ((i : Int) + 1) = (i : Int) + 1 := IntWalk.i64_in _ (by omega)
 have HL := Lib.hid hl
 have HPR := Lib.hid fun W => printable_yes c.toNat W h1 h2
 have HSP := Lib.hid fun W => special_no c W hs
 have HSN := Lib.hid fun W => span_any c c W
 obtain ⟨f, hf⟩ : ∃ f, spanF c.toNat (c.toNat + 1) = f := ⟨_, rfl⟩
 rw [hf] at HSN ⊢
 clear hc hnn hs h1 h2 hl hf hc8
 clear h
 go_enter Tryd.func69, Tryd.ntmps69
 go_wp2_with fail
 refine (HN.out _ HS.out.ps).mono ?_
 rintro e w1 ⟨rfl, hq⟩
 have HS1 := Lib.hid (HS.out.go hq)
 clear hq HS
 go_wp2_with fail
 refine (HT.out 40 (by decide) (by exact HNE.out 40 (by decide)) _ HS1.out.ps).mono ?_
 rintro e w2 ⟨rfl, hq⟩
 have HS2 := Lib.hid (HS1.out.go hq)
 clear hq HS1
 go_wp2_with fail
 refine (HT.out 91 (by decide) (by exact HNE.out 91 (by decide)) _ HS2.out.ps).mono ?_
 rintro e w3 ⟨rfl, hq⟩
 have HS3 := Lib.hid (HS2.out.go hq)
 clear hq HS2
 go_wp2_with fail
 refine (HT.out 46 (by decide) (by exact HNE.out 46 (by decide)) _ HS3.out.ps).mono ?_
 rintro e w4 ⟨rfl, hq⟩
 have HS4 := Lib.hid (HS3.out.go hq)
 clear hq HS3
 go_wp2_with fail
 refine (HT.out 94 (by decide) (by exact HNE.out 94 (by decide)) _ HS4.out.ps).mono ?_
 rintro e w5 ⟨rfl, hq⟩
 have HS5 := Lib.hid (HS4.out.go hq)
 clear hq HS4
 go_wp2_with fail
 refine (HT.out 36 (by decide) (by exact HNE.out 36 (by decide)) _ HS5.out.ps).mono ?_
 rintro e w6 ⟨rfl, hq⟩
 have HS6 := Lib.hid (HS5.out.go hq)
 clear hq HS5
 go_wp2_with fail
 refine (HT.out 92 (by decide) (by exact HNE.out 92 (by decide)) _ HS6.out.ps).mono ?_
 rintro e w7 ⟨rfl, hq⟩
 have HS7 := Lib.hid (HS6.out.go hq)
 clear hq HS6
 have c1 := HS7.out.ps.c1
 have f1 := HS7.out.ps.f1
 go_wp2_with fail
 refine (HPR.out _).mono ?_
 rintro e wp ⟨rfl, rfl⟩
 go_wp2_with fail
 refine (HSP.out _).mono ?_
 rintro e wp ⟨rfl, rfl⟩
 go_wp2_with fail
 have HS8 := Lib.hid (HS7.out.go (HS7.out.ps.to (i + 1) HL.out))
 refine (HSN.out _).mono ?_
 rintro e w9 ⟨rfl, hb⟩
 have HSx := Lib.hid (HS8.out.on hb)
 clear hb HS8
 clear HS7 c1 f1
 go_wp2_with fail
 refine (class_any _ _).mono ?_
 rintro e wz ⟨v, rfl, hT, hb⟩
 have HSz := Lib.hid (HSx.out.on hb)
 have HTz := Lib.hid (hT.up HSx.out.sz)
 obtain ⟨op, rs, nm, kids, mn, mx, ra, rc, a, cc, ht, rfl, _⟩ := hT.open
 clear hT hb ht
 obtain ⟨k0, k1, k2, k3, k4, k5, f0, f1, f2, f3, f4, f5⟩ := bk6 HSz.out.bk
 go_wp2_with fail
 rw [nest6 wz]
 exact node_retz (P := 2) rfl HSz.out _ _ rfl (by rfl) HTz.out fits_ok
set_option maxHeartbeats 4000000 in
set_option maxRecDepth 1000000 in
theorem atomz_none (b : Nat) (l : List UInt8) (i : Nat) (hc : Asc.at_ l i = 999) : RdZ 69 b l i (.error (i, 1)) := by
 intro w h
 have HT : Hid (∀ d : Nat, d < 256 → Asc.at_ l i ≠ d → ∀ W, ZS b l i 0 W → Calls Tryd.prog 38 #[.pointer (some ⟨b, 0, none⟩), .int .u8 (d : Int)] W fun r w' => r = .returned (.bool false) ∧ ZQ b l i 0 W w') := Lib.hid (fun d _ hd W hW => ztakes_no b l i 0 W hW d hd)
 have HS := Lib.hid (ZR.start h)
 have HC := Lib.hid hc
 have HN := Lib.hid fun W (hW : ZS b l i 0 W) => znext_no b l i 0 W hW hc
 have HPR := Lib.hid fun W => (show Calls Tryd.prog 82 #[.int .u8 0] W _ from printable_no 0 W (.inl (by decide)))
 clear hc
 have HF := Lib.hid fun W (hW : ZS b l i 0 W) => zfail b l i 0 1 W hW
 simp only [if_true] at HF
 clear h
 go_enter Tryd.func69, Tryd.ntmps69
 go_wp2_with fail
 refine (HN.out _ HS.out.ps).mono ?_
 rintro e w1 ⟨rfl, hq⟩
 have HS1 := Lib.hid (HS.out.go hq)
 clear hq HS
 go_wp2_with fail
 refine (HT.out 40 (by decide) (by rw [HC.out]; decide) _ HS1.out.ps).mono ?_
 rintro e w2 ⟨rfl, hq⟩
 have HS2 := Lib.hid (HS1.out.go hq)
 clear hq HS1
 go_wp2_with fail
 refine (HT.out 91 (by decide) (by rw [HC.out]; decide) _ HS2.out.ps).mono ?_
 rintro e w3 ⟨rfl, hq⟩
 have HS3 := Lib.hid (HS2.out.go hq)
 clear hq HS2
 go_wp2_with fail
 refine (HT.out 46 (by decide) (by rw [HC.out]; decide) _ HS3.out.ps).mono ?_
 rintro e w4 ⟨rfl, hq⟩
 have HS4 := Lib.hid (HS3.out.go hq)
 clear hq HS3
 go_wp2_with fail
 refine (HT.out 94 (by decide) (by rw [HC.out]; decide) _ HS4.out.ps).mono ?_
 rintro e w5 ⟨rfl, hq⟩
 have HS5 := Lib.hid (HS4.out.go hq)
 clear hq HS4
 go_wp2_with fail
 refine (HT.out 36 (by decide) (by rw [HC.out]; decide) _ HS5.out.ps).mono ?_
 rintro e w6 ⟨rfl, hq⟩
 have HS6 := Lib.hid (HS5.out.go hq)
 clear hq HS5
 go_wp2_with fail
 refine (HT.out 92 (by decide) (by rw [HC.out]; decide) _ HS6.out.ps).mono ?_
 rintro e w7 ⟨rfl, hq⟩
 have HS7 := Lib.hid (HS6.out.go hq)
 clear hq HS6
 go_wp2_with fail
 refine (HPR.out _).mono ?_
 rintro e wp ⟨rfl, rfl⟩
 go_wp2_with fail
 refine (HF.out _ HS7.out.ps).mono ?_
 rintro e w8 ⟨rfl, hq⟩
 have HS8 := Lib.hid (HS7.out.go hq)
 clear hq HS7
 obtain ⟨k0, k1, k2, k3, k4, k5, f0, f1, f2, f3, f4, f5⟩ := bk6 HS8.out.bk
 go_wp2_with fail
 rw [nest6]
 exact zero_retz (P := 2) rfl HS8.out _ _ rfl (by rfl) (by decide) rfl
set_option maxHeartbeats 4000000 in
set_option maxRecDepth 1000000 in
theorem atomz_odd (b : Nat) (l : List UInt8) (i : Nat) (c : UInt8) (hc : Asc.at_ l i = c.toNat) (hnn : ∀ d : UInt8, d ∈ [40, 91, 46, 94, 36, 92] → d ≠ c) (h1 : c.toNat < 32 ∨ 126 < c.toNat) : RdZ 69 b l i (.error (i, 1)) := by
 intro w h
 have HT : Hid (∀ d : Nat, d < 256 → Asc.at_ l i ≠ d → ∀ W, ZS b l i 0 W → Calls Tryd.prog 38 #[.pointer (some ⟨b, 0, none⟩), .int .u8 (d : Int)] W fun r w' => r = .returned (.bool false) ∧ ZQ b l i 0 W w') := Lib.hid (fun d _ hd W hW => ztakes_no b l i 0 W hW d hd)
 have HS := Lib.hid (ZR.start h)
 have hc8 : c.toNat < 256 := UInt8.toNat_lt c
 have HN := Lib.hid fun W (hW : ZS b l i 0 W) => znext_ok b l i W hW c.toNat hc hc8
 have HNE : Hid (∀ d : UInt8, d ∈ [40, 91, 46, 94, 36, 92] → Asc.at_ l i ≠ d.toNat) := Lib.hid (fun d hd e => hnn d hd (UInt8.toNat_inj.1 (e.symm.trans hc)))
 have HPR := Lib.hid fun W => printable_no c.toNat W h1
 clear hc hnn h1 hc8
 have HF := Lib.hid fun W (hW : ZS b l i 0 W) => zfail b l i 0 1 W hW
 simp only [if_true] at HF
 clear h
 go_enter Tryd.func69, Tryd.ntmps69
 go_wp2_with fail
 refine (HN.out _ HS.out.ps).mono ?_
 rintro e w1 ⟨rfl, hq⟩
 have HS1 := Lib.hid (HS.out.go hq)
 clear hq HS
 go_wp2_with fail
 refine (HT.out 40 (by decide) (by exact HNE.out 40 (by decide)) _ HS1.out.ps).mono ?_
 rintro e w2 ⟨rfl, hq⟩
 have HS2 := Lib.hid (HS1.out.go hq)
 clear hq HS1
 go_wp2_with fail
 refine (HT.out 91 (by decide) (by exact HNE.out 91 (by decide)) _ HS2.out.ps).mono ?_
 rintro e w3 ⟨rfl, hq⟩
 have HS3 := Lib.hid (HS2.out.go hq)
 clear hq HS2
 go_wp2_with fail
 refine (HT.out 46 (by decide) (by exact HNE.out 46 (by decide)) _ HS3.out.ps).mono ?_
 rintro e w4 ⟨rfl, hq⟩
 have HS4 := Lib.hid (HS3.out.go hq)
 clear hq HS3
 go_wp2_with fail
 refine (HT.out 94 (by decide) (by exact HNE.out 94 (by decide)) _ HS4.out.ps).mono ?_
 rintro e w5 ⟨rfl, hq⟩
 have HS5 := Lib.hid (HS4.out.go hq)
 clear hq HS4
 go_wp2_with fail
 refine (HT.out 36 (by decide) (by exact HNE.out 36 (by decide)) _ HS5.out.ps).mono ?_
 rintro e w6 ⟨rfl, hq⟩
 have HS6 := Lib.hid (HS5.out.go hq)
 clear hq HS5
 go_wp2_with fail
 refine (HT.out 92 (by decide) (by exact HNE.out 92 (by decide)) _ HS6.out.ps).mono ?_
 rintro e w7 ⟨rfl, hq⟩
 have HS7 := Lib.hid (HS6.out.go hq)
 clear hq HS6
 go_wp2_with fail
 refine (HPR.out _).mono ?_
 rintro e wp ⟨rfl, rfl⟩
 go_wp2_with fail
 refine (HF.out _ HS7.out.ps).mono ?_
 rintro e w8 ⟨rfl, hq⟩
 have HS8 := Lib.hid (HS7.out.go hq)
 clear hq HS7
 obtain ⟨k0, k1, k2, k3, k4, k5, f0, f1, f2, f3, f4, f5⟩ := bk6 HS8.out.bk
 go_wp2_with fail
 rw [nest6]
 exact zero_retz (P := 2) rfl HS8.out _ _ rfl (by rfl) (by decide) rfl
set_option maxHeartbeats 4000000 in
set_option maxRecDepth 1000000 in
theorem atomz_sign (b : Nat) (l : List UInt8) (i : Nat) (c : UInt8) (hc : Asc.at_ l i = c.toNat) (hnn : ∀ d : UInt8, d ∈ [40, 91, 46, 94, 36, 92] → d ≠ c) (h1 : 32 ≤ c.toNat) (h2 : c.toNat ≤ 126) (hs : c ∈ spec) : RdZ 69 b l i (.error (i, 1)) := by
 intro w h
 have HT : Hid (∀ d : Nat, d < 256 → Asc.at_ l i ≠ d → ∀ W, ZS b l i 0 W → Calls Tryd.prog 38 #[.pointer (some ⟨b, 0, none⟩), .int .u8 (d : Int)] W fun r w' => r = .returned (.bool false) ∧ ZQ b l i 0 W w') := Lib.hid (fun d _ hd W hW => ztakes_no b l i 0 W hW d hd)
 have HS := Lib.hid (ZR.start h)
 have hc8 : c.toNat < 256 := UInt8.toNat_lt c
 have HN := Lib.hid fun W (hW : ZS b l i 0 W) => znext_ok b l i W hW c.toNat hc hc8
 have HNE : Hid (∀ d : UInt8, d ∈ [40, 91, 46, 94, 36, 92] → Asc.at_ l i ≠ d.toNat) := Lib.hid (fun d hd e => hnn d hd (UInt8.toNat_inj.1 (e.symm.trans hc)))
 have HPR := Lib.hid fun W => printable_yes c.toNat W h1 h2
 have HI := Lib.hid fun W => (show Calls Tryd.prog 83 #[.string ⟨#[40, 41, 91, 93, 123, 125, 42, 43, 63, 124, 46, 94, 36, 92]⟩, .int .u8 (c.toNat : Int)] W _ from ib_yes spec c W hs)
 obtain ⟨K, hK⟩ : ∃ K, Asc.pos spec c = K := ⟨_, rfl⟩
 rw [hK] at HI
 have z0 : decide ((0 : Int) ≤ (K : Int)) = true := decide_eq_true (by omega)
 clear hc hnn h1 h2 hs hc8 hK
 have HF := Lib.hid fun W (hW : ZS b l i 0 W) => zfail b l i 0 1 W hW
 simp only [if_true] at HF
 clear h
 go_enter Tryd.func69, Tryd.ntmps69
 go_wp2_with fail
 refine (HN.out _ HS.out.ps).mono ?_
 rintro e w1 ⟨rfl, hq⟩
 have HS1 := Lib.hid (HS.out.go hq)
 clear hq HS
 go_wp2_with fail
 refine (HT.out 40 (by decide) (by exact HNE.out 40 (by decide)) _ HS1.out.ps).mono ?_
 rintro e w2 ⟨rfl, hq⟩
 have HS2 := Lib.hid (HS1.out.go hq)
 clear hq HS1
 go_wp2_with fail
 refine (HT.out 91 (by decide) (by exact HNE.out 91 (by decide)) _ HS2.out.ps).mono ?_
 rintro e w3 ⟨rfl, hq⟩
 have HS3 := Lib.hid (HS2.out.go hq)
 clear hq HS2
 go_wp2_with fail
 refine (HT.out 46 (by decide) (by exact HNE.out 46 (by decide)) _ HS3.out.ps).mono ?_
 rintro e w4 ⟨rfl, hq⟩
 have HS4 := Lib.hid (HS3.out.go hq)
 clear hq HS3
 go_wp2_with fail
 refine (HT.out 94 (by decide) (by exact HNE.out 94 (by decide)) _ HS4.out.ps).mono ?_
 rintro e w5 ⟨rfl, hq⟩
 have HS5 := Lib.hid (HS4.out.go hq)
 clear hq HS4
 go_wp2_with fail
 refine (HT.out 36 (by decide) (by exact HNE.out 36 (by decide)) _ HS5.out.ps).mono ?_
 rintro e w6 ⟨rfl, hq⟩
 have HS6 := Lib.hid (HS5.out.go hq)
 clear hq HS5
 go_wp2_with fail
 refine (HT.out 92 (by decide) (by exact HNE.out 92 (by decide)) _ HS6.out.ps).mono ?_
 rintro e w7 ⟨rfl, hq⟩
 have HS7 := Lib.hid (HS6.out.go hq)
 clear hq HS6
 go_wp2_with fail
 refine (HPR.out _).mono ?_
 rintro e wp ⟨rfl, rfl⟩
 go_wp2_with fail
 refine (HI.out _).mono ?_
 rintro e wp ⟨rfl, rfl⟩
 go_wp2_with fail
 refine (HF.out _ HS7.out.ps).mono ?_
 rintro e w8 ⟨rfl, hq⟩
 have HS8 := Lib.hid (HS7.out.go hq)
 clear hq HS7
 obtain ⟨k0, k1, k2, k3, k4, k5, f0, f1, f2, f3, f4, f5⟩ := bk6 HS8.out.bk
 go_wp2_with fail
 rw [nest6]
 exact zero_retz (P := 2) rfl HS8.out _ _ rfl (by rfl) (by decide) rfl
theorem spec_nat {c : UInt8} (h : c ∈ spec) : (spec.map UInt8.toNat).contains c.toNat = true := by
 rw [List.contains_iff_mem]
 exact List.mem_map_of_mem h
theorem spec_u8 {c : UInt8} (h : (spec.map UInt8.toNat).contains c.toNat = true) : c ∈ spec := by
 rw [List.contains_iff_mem] at h
 obtain ⟨d, hd, e⟩ := List.mem_map.1 h
 rwa [← UInt8.toNat_inj.1 e]
theorem atom_any (b : Nat) (l : List UInt8) (ch : Nat → Out NT) (i : Nat) (hg : Asc.at_ l i = 40 → RdZ 76 b l (i + 1) (grpM ch l (i + 1))) : RdZ 69 b l i (atomM ch l i) := by
 unfold atomM
 by_cases h1 : Asc.at_ l i = 40
 ·rw [if_pos h1]
  exact atomz_group b l i _ h1 (hg h1)
 rw [if_neg h1]
 by_cases h2 : Asc.at_ l i = 91
 ·rw [if_pos h2]
  exact atomz_bra b l i _ h2 (bra_any b l (i + 1))
 rw [if_neg h2]
 by_cases h3 : Asc.at_ l i = 46
 ·rw [if_pos h3]
  exact atomz_dot b l i h3
 rw [if_neg h3]
 by_cases h4 : Asc.at_ l i = 94
 ·rw [if_pos h4]
  exact atomz_beg b l i h4
 rw [if_neg h4]
 by_cases h5 : Asc.at_ l i = 36
 ·rw [if_pos h5]
  exact atomz_end b l i h5
 rw [if_neg h5]
 by_cases h6 : Asc.at_ l i = 92
 ·rw [if_pos h6]
  refine atomz_esc b l i _ (fun s c one j e hf => ?_) h6
  rcases fits_cases hf with ⟨hm, rfl⟩ | ⟨hm, he⟩
  ·rw [hm]
   exact fits_ok
  ·rw [hm]
   exact fits_err he
 rw [if_neg h6]
 rcases at_two l i with h9 | h9
 ·obtain ⟨c, hc⟩ := at_u8 h9
  rw [hc] at h1 h2 h3 h4 h5 h6 ⊢
  have hnn : ∀ d : UInt8, d ∈ [40, 91, 46, 94, 36, 92] → d ≠ c := by
   intro d hd e
   subst e
   simp only [List.mem_cons, List.not_mem_nil, or_false] at hd
   rcases hd with rfl | rfl | rfl | rfl | rfl | rfl
   ·exact h1 (by decide)
   ·exact h2 (by decide)
   ·exact h3 (by decide)
   ·exact h4 (by decide)
   ·exact h5 (by decide)
   ·exact h6 (by decide)
  by_cases ha : c.toNat < 32 ∨ 126 < c.toNat
  ·rw [if_neg (by simp only [selfA, Bool.and_eq_true, decide_eq_true_eq]; omega)]
   exact atomz_odd b l i c hc (fun d hd e => hnn d hd e.symm.symm) ha
  ·by_cases hs : c ∈ spec
   ·rw [if_neg (by simp only [selfA, spec_nat hs]; simp)]
    exact atomz_sign b l i c hc hnn (by omega) (by omega) hs
   ·have hself : selfA c.toNat = true := by
     unfold selfA
     rw [decide_eq_true (show 32 ≤ c.toNat by omega), decide_eq_true (show c.toNat ≤ 126 by omega)]
     cases hh : (spec.map UInt8.toNat).contains c.toNat with
     | true => exact absurd (spec_u8 hh) hs
     | false => rfl
    rw [if_pos hself]
    exact atomz_plain b l i c hc hnn hs (by omega) (by omega)
 ·rw [h9, if_neg (by decide)]
  exact atomz_none b l i h9
end Go.Proofs.YtihdnlpelfgklaaDoor
namespace Go.Proofs.YtihdnlpelfgklaaDoor
open Go.RowKit
theorem capN_le (l : List UInt8) (n : Nat) (h : capN l = n) (h0 : 0 < n) : n + 1 ≤ l.length ∧ n = nlen l := by
 unfold capN at h
 split at h
 ·rename_i hc
  have := Asc.at_lt (l := l) (i := nlen l) (by omega)
  omega
 ·omega
set_option maxHeartbeats 8000000 in
set_option maxRecDepth 1000000 in
theorem grpz_named (b : Nat) (l : List UInt8) (i n : Nat) (hn : capN (l.drop i) = n) (hn0 : 0 < n) (r : Out NT) (hg : RdZ 26 b l (i + n + 1) r) (s0 : UInt8) (sg : List UInt8) (hsg : Asc.seg l i (i + n) = s0 :: sg) (R : Out NT)
  (hR : ∀ t j e, fits r t j e → (nxN l j e = 41 → fits R (.node 5 [] (s0 :: sg) [t] 0 0) (j + 1) 0) ∧ (nxN l j e ≠ 41 → fits R (.node 5 [] (s0 :: sg) [t] 0 0) j (if e = 0 then 1 else e))) : RdZ 76 b l i R := by
 intro w h
 have hn1 : i + n + 1 ≤ l.length := by
  have := (capN_le _ _ hn hn0).1
  rw [List.length_drop] at this
  omega
 have HCP := Lib.hid fun W (hW : ZS b l i 0 W) => (capt_any (l.drop i) W hW.kd (by have := hW.len; rw [List.length_drop]; omega)).mono fun _ w' h => (⟨h.1, h.2.symm⟩ : _ ∧ w' = W)
 rw [hn] at HCP
 have HG := Lib.hid hg
 have HRR := Lib.hid hR
 have HXY := Lib.hid fun (k : Nat) (hk : Asc.at_ l k = 41) W (hW : ZS b l k 0 W) => zexpect_yes b l k W hW 41 hk (by decide)
 have HXN := Lib.hid fun (k e : Nat) (hk : nxN l k e ≠ 41) W (hW : ZS b l k e W) => zexpect_no b l k e W hW 41 hk
 have hl2 := h.len
 have hile := h.le
 have HS := Lib.hid (ZR.start h)
 have c0 := HS.out.ps.c0
 have c1 := HS.out.ps.c1
 have c2 : (w.alloc (.cells #[.int .i64 0, .slice none 0 0, .string ⟨#[]⟩, .slice none 0 0, .int .i64 0, .int .i64 0] 29)).cell? ⟨b, 2, none⟩ = some (.int .i64 0) := HS.out.ps.c2
 have f1 := HS.out.ps.f1
 have i0 : (0 : Int) ≤ (i : Int) := by omega
 have i1 : (i : Int) ≤ (l.length : Int) := by omega
 have i2 : ((i : Int) + (n : Int)) ≤ (l.length : Int) := by omega
 have i3 : (i : Int) ≤ (i : Int) + (n : Int) := by omega
 have w1 : IntKind.i64.wrap ((i : Int) + (n : Int)) = (i : Int) + (n : Int) := IntWalk.i64_in _ (by omega)
 have w2 : IntKind.i64.wrap ((n : Int) + 1) = (n : Int) + 1 := IntWalk.i64_in _ (by omega)
 have w3 : IntKind.i64.wrap ((i : Int) + ((n : Int) + 1)) = (i : Int) + ((n : Int) + 1) := IntWalk.i64_in _ (by omega)
 have z0 : decide ((0 : Int) < (n : Int)) = true := decide_eq_true (by omega)
 have y0 : decide (0 < n) = true := decide_eq_true hn0
 have HNM := Lib.hid (show (s0 :: sg).length ≤ 1000 by rw [← hsg, Asc.seg_length l (by omega)]; omega)
 have HSG := Lib.hid hsg
 clear h hg hn hsg hR
 go_enter Tryd.func76, Tryd.ntmps76
 go_wp2_with fail
 go_quiet (first | (go_at_call 89; simp only [ext_drop]; refine Calls.quiet_of_same (HCP.out _ (HS.out.ps.drewN _).ps)))
 have HS1 := Lib.hid (HS.out.go (HS.out.ps.drewN nq))
 go_wp2_with fail
 go_quiet (fail)
 have HS2 := Lib.hid (HS1.out.go (HS1.out.ps.drewN nq))
 have HS3 := Lib.hid (HS2.out.go (HS2.out.ps.to (i + n + 1) hn1))
 clear HS HS1 HS2
 go_wp2_with fail
 rw [← World.drewN_drewN, show ((i : Int) + ((n : Int) + 1)) = ((i + n + 1 : Nat) : Int) by omega]
 refine (HG.out _ HS3.out.ps).mono ?_
 rintro e wc ⟨v, t, j, e2, rfl, hT, hq, hr⟩
 have HS4 := Lib.hid (HS3.out.go hq)
 have HT4 := Lib.hid (hT.up HS3.out.sz)
 have HR4 := Lib.hid (HRR.out _ _ _ hr)
 obtain ⟨op, rs, nm, kids, mn, mx, ra, rc, a, cc, ht, rfl, _⟩ := hT.open
 have HP := Lib.hid (ZA.start HS4.out HT4.out)
 clear hT hq ht HS3 HS4 HT4 hr c0 c1 c2 f1
 by_cases h41 : nxN l j e2 = 41
 ·obtain rfl : e2 = 0 := Decidable.byContradiction fun hne => by rw [nxN_err hne] at h41; cases h41
  have H41 := Lib.hid h41
  clear h41
  go_wp2_with fail
  refine (HXY.out _ H41.out _ HP.out.pr.ps).mono ?_
  rintro e w5 ⟨rfl, hq⟩
  have HP5 := Lib.hid (HP.out.go hq)
  clear hq HP
  rw [Asc.extract_seg, HSG.out]
  obtain ⟨q0, q1, q2, q3, q4, q5⟩ := bkn HP5.out.bk
  obtain ⟨q, hq⟩ : ∃ q, wc.heap.size = q := ⟨_, rfl⟩
  rw [hq] at q0 q1 q2 q3 q4 q5 ⊢
  have hqw : q ≠ w.heap.size := by have := HP5.out.hq; omega
  have HR5 := Lib.hid (HP5.out.pr.on (al_below w5 (.cells #[.int .i64 op, .slice ra rs.length rc, .string ⟨nm.toArray⟩, .slice a kids.length cc, .int .i64 mn, .int .i64 mx] 29)))
  have HK : Hid (RW (fun k => w.heap.size < k) 6 (KR (fun k => w.heap.size < k) (w5.alloc (.cells #[.int .i64 op, .slice ra rs.length rc, .string ⟨nm.toArray⟩, .slice a kids.length cc, .int .i64 mn, .int .i64 mx] 29))) (w5.alloc (.cells #[.int .i64 op, .slice ra rs.length rc, .string ⟨nm.toArray⟩, .slice a kids.length cc, .int .i64 mn, .int .i64 mx] 29)) [t] (.slice (some ⟨w5.heap.size, 0, none⟩) 1 1)) :=
   Lib.hid ((OR.lit (B := w.heap.size + 1) w5 t [.int .i64 op, .slice ra rs.length rc, .string ⟨nm.toArray⟩, .slice a kids.length cc, .int .i64 mn, .int .i64 mx] HP5.out.pr.sz rfl (HP5.out.ng.low (al_below w5 _))).rw (fun _ hb => hb))
  obtain ⟨k0, k1, k2, k3, k4, k5, f0, f1, f2, f3, f4, f5⟩ := bk6 HR5.out.bk
  go_wp2_with fail
  rw [nest6]
  exact node_retz (P := 2) rfl HR5.out _ _ rfl (by rfl) (NG.node (rs := []) (kids := [t]) RW.nil HK.out 5 (s0 :: sg) 0 0 HNM.out) (HR4.out.1 H41.out)
 ·have H41 := Lib.hid h41
  clear h41
  go_wp2_with fail
  refine (HXN.out _ _ H41.out _ HP.out.pr.ps).mono ?_
  rintro e w5 ⟨rfl, hq⟩
  have HP5 := Lib.hid (HP.out.go hq)
  clear hq HP
  rw [Asc.extract_seg, HSG.out]
  obtain ⟨q0, q1, q2, q3, q4, q5⟩ := bkn HP5.out.bk
  obtain ⟨q, hq⟩ : ∃ q, wc.heap.size = q := ⟨_, rfl⟩
  rw [hq] at q0 q1 q2 q3 q4 q5 ⊢
  have hqw : q ≠ w.heap.size := by have := HP5.out.hq; omega
  have HR5 := Lib.hid (HP5.out.pr.on (al_below w5 (.cells #[.int .i64 op, .slice ra rs.length rc, .string ⟨nm.toArray⟩, .slice a kids.length cc, .int .i64 mn, .int .i64 mx] 29)))
  have HK : Hid (RW (fun k => w.heap.size < k) 6 (KR (fun k => w.heap.size < k) (w5.alloc (.cells #[.int .i64 op, .slice ra rs.length rc, .string ⟨nm.toArray⟩, .slice a kids.length cc, .int .i64 mn, .int .i64 mx] 29))) (w5.alloc (.cells #[.int .i64 op, .slice ra rs.length rc, .string ⟨nm.toArray⟩, .slice a kids.length cc, .int .i64 mn, .int .i64 mx] 29)) [t] (.slice (some ⟨w5.heap.size, 0, none⟩) 1 1)) :=
   Lib.hid ((OR.lit (B := w.heap.size + 1) w5 t [.int .i64 op, .slice ra rs.length rc, .string ⟨nm.toArray⟩, .slice a kids.length cc, .int .i64 mn, .int .i64 mx] HP5.out.pr.sz rfl (HP5.out.ng.low (al_below w5 _))).rw (fun _ hb => hb))
  obtain ⟨k0, k1, k2, k3, k4, k5, f0, f1, f2, f3, f4, f5⟩ := bk6 HR5.out.bk
  go_wp2_with fail
  rw [nest6]
  exact node_retz (P := 2) rfl HR5.out _ _ rfl (by rfl) (NG.node (rs := []) (kids := [t]) RW.nil HK.out 5 (s0 :: sg) 0 0 HNM.out) (HR4.out.2 H41.out)
set_option maxHeartbeats 8000000 in
set_option maxRecDepth 1000000 in
theorem grpz_bare (b : Nat) (l : List UInt8) (i : Nat) (hn : capN (l.drop i) = 0) (r : Out NT) (hg : RdZ 26 b l i r) (R : Out NT)
  (hR : ∀ t j e, fits r t j e → (nxN l j e = 41 → fits R t (j + 1) 0) ∧ (nxN l j e ≠ 41 → fits R t j (if e = 0 then 1 else e))) : RdZ 76 b l i R := by
 intro w h
 have HCP := Lib.hid fun W (hW : ZS b l i 0 W) => (capt_any (l.drop i) W hW.kd (by have := hW.len; rw [List.length_drop]; omega)).mono fun _ w' h => (⟨h.1, h.2.symm⟩ : _ ∧ w' = W)
 rw [hn] at HCP
 have HG := Lib.hid hg
 have HRR := Lib.hid hR
 have HXY := Lib.hid fun (k : Nat) (hk : Asc.at_ l k = 41) W (hW : ZS b l k 0 W) => zexpect_yes b l k W hW 41 hk (by decide)
 have HXN := Lib.hid fun (k e : Nat) (hk : nxN l k e ≠ 41) W (hW : ZS b l k e W) => zexpect_no b l k e W hW 41 hk
 have hile := h.le
 have HS := Lib.hid (ZR.start h)
 have c0 := HS.out.ps.c0
 have c1 := HS.out.ps.c1
 have c2 : (w.alloc (.cells #[.int .i64 0, .slice none 0 0, .string ⟨#[]⟩, .slice none 0 0, .int .i64 0, .int .i64 0] 29)).cell? ⟨b, 2, none⟩ = some (.int .i64 0) := HS.out.ps.c2
 have i0 : (0 : Int) ≤ (i : Int) := by omega
 have i1 : (i : Int) ≤ (l.length : Int) := by omega
 clear h hg hn hR
 go_enter Tryd.func76, Tryd.ntmps76
 go_wp2_with fail
 go_quiet (first | (go_at_call 89; simp only [ext_drop]; refine Calls.quiet_of_same (HCP.out _ (HS.out.ps.drewN _).ps)))
 have HS3 := Lib.hid (HS.out.go (HS.out.ps.drewN nq))
 clear HS
 go_wp2_with fail
 refine (HG.out _ HS3.out.ps).mono ?_
 rintro e wc ⟨v, t, j, e2, rfl, hT, hq, hr⟩
 have HS4 := Lib.hid (HS3.out.go hq)
 have HT4 := Lib.hid (hT.up HS3.out.sz)
 have HR4 := Lib.hid (HRR.out _ _ _ hr)
 obtain ⟨op, rs, nm, kids, mn, mx, ra, rc, a, cc, ht, rfl, _⟩ := hT.open
 have HP := Lib.hid (ZA.start HS4.out HT4.out)
 clear hT hq ht HS3 HS4 HT4 hr c0 c1 c2
 by_cases h41 : nxN l j e2 = 41
 ·obtain rfl : e2 = 0 := Decidable.byContradiction fun hne => by rw [nxN_err hne] at h41; cases h41
  have H41 := Lib.hid h41
  clear h41
  go_wp2_with fail
  refine (HXY.out _ H41.out _ HP.out.pr.ps).mono ?_
  rintro e w5 ⟨rfl, hq⟩
  have HP5 := Lib.hid (HP.out.go hq)
  clear hq HP
  obtain ⟨q0, q1, q2, q3, q4, q5⟩ := bkn HP5.out.bk
  obtain ⟨q, hq⟩ : ∃ q, wc.heap.size = q := ⟨_, rfl⟩
  rw [hq] at q0 q1 q2 q3 q4 q5 ⊢
  have hqw : q ≠ w.heap.size := by have := HP5.out.hq; omega
  obtain ⟨k0, k1, k2, k3, k4, k5, f0, f1, f2, f3, f4, f5⟩ := bk6 HP5.out.pr.bk
  go_wp2_with fail
  rw [nest6 w5]
  exact node_retz (P := 2) rfl HP5.out.pr _ _ rfl (by rfl) HP5.out.ng (HR4.out.1 H41.out)
 ·have H41 := Lib.hid h41
  clear h41
  go_wp2_with fail
  refine (HXN.out _ _ H41.out _ HP.out.pr.ps).mono ?_
  rintro e w5 ⟨rfl, hq⟩
  have HP5 := Lib.hid (HP.out.go hq)
  clear hq HP
  obtain ⟨q0, q1, q2, q3, q4, q5⟩ := bkn HP5.out.bk
  obtain ⟨q, hq⟩ : ∃ q, wc.heap.size = q := ⟨_, rfl⟩
  rw [hq] at q0 q1 q2 q3 q4 q5 ⊢
  have hqw : q ≠ w.heap.size := by have := HP5.out.hq; omega
  obtain ⟨k0, k1, k2, k3, k4, k5, f0, f1, f2, f3, f4, f5⟩ := bk6 HP5.out.pr.bk
  go_wp2_with fail
  rw [nest6 w5]
  exact node_retz (P := 2) rfl HP5.out.pr _ _ rfl (by rfl) HP5.out.ng (HR4.out.2 H41.out)
theorem grp_fits (l : List UInt8) (r : Out NT) (f : NT → NT) (t : NT) (j e : Nat) (h : fits r t j e) : (nxN l j e = 41 → fits (match r with
  | .error x => .error x
  | .ok (t, j) => if Asc.at_ l j = 41 then .ok (f t, j + 1) else .error (j, 1)) (f t) (j + 1) 0) ∧ (nxN l j e ≠ 41 → fits (match r with
  | .error x => .error x
  | .ok (t, j) => if Asc.at_ l j = 41 then .ok (f t, j + 1) else .error (j, 1)) (f t) j (if e = 0 then 1 else e)) := by
 rcases fits_cases h with ⟨rfl, rfl⟩ | ⟨rfl, he⟩
 ·rw [nxN_ok]
  refine ⟨fun h41 => ?_, fun h41 => ?_⟩
  ·simp only [if_pos h41]
   exact fits_ok
  ·simp only [if_neg h41]
   exact fits_err (by decide)
 ·rw [nxN_err he]
  refine ⟨fun h41 => (by cases h41), fun _ => ?_⟩
  rw [if_neg he]
  exact fits_err he
theorem grp_any (b : Nat) (l : List UInt8) (ch : Nat → Out NT) (i : Nat) (hg : RdZ 26 b l (grpI l i) (ch (grpI l i))) : RdZ 76 b l i (grpM ch l i) := by
 unfold grpM
 obtain ⟨n, hn⟩ : ∃ n, capN (l.drop i) = n := ⟨_, rfl⟩
 rcases Nat.eq_zero_or_pos n with rfl | hpos
 ·have hi : grpI l i = i := by unfold grpI; rw [hn]; rfl
  rw [hi] at hg ⊢
  rw [hn]
  refine grpz_bare b l i hn _ hg _ fun t j e hf => ?_
  have := grp_fits l _ (fun t => t) t j e hf
  simp only [Nat.lt_irrefl, if_false]
  exact this
 ·have hi : grpI l i = i + n + 1 := by unfold grpI; rw [hn, if_pos hpos]
  have hle := (capN_le _ _ hn hpos).1
  rw [List.length_drop] at hle
  rw [hi] at hg ⊢
  rw [hn]
  obtain ⟨s0, sg, hsg⟩ : ∃ s0 sg, Asc.seg l i (i + n) = s0 :: sg := by
   have := Asc.seg_length l (a := i) (b := i + n) (by omega)
   cases hh : Asc.seg l i (i + n) with
   | nil => rw [hh] at this; simp at this; omega
   | cons x y => exact ⟨x, y, rfl⟩
  refine grpz_named b l i n hn hpos _ hg s0 sg hsg _ fun t j e hf => ?_
  have := grp_fits l _ (fun t => .node 5 [] (s0 :: sg) [t] 0 0) t j e hf
  rw [hsg]
  simp only [if_pos hpos]
  exact this
def repK (l : List UInt8) (t : NT) (j : Nat) : Out NT :=
 if Asc.at_ l j = 42 then .ok (.node 4 [] [] [t] 0 (-1), j + 1)
 else if Asc.at_ l j = 43 then .ok (.node 4 [] [] [t] 1 (-1), j + 1)
 else if Asc.at_ l j = 63 then .ok (.node 4 [] [] [t] 0 1, j + 1)
 else if Asc.at_ l j = 123 then (match boundsM l (j + 1) with
  | .error x => .error x
  | .ok ((lo, hi), k) => .ok (.node 4 [] [] [t] lo hi, k))
 else .ok (t, j)
theorem repM_eq (ch : Nat → Out NT) (l : List UInt8) (i : Nat) : repM ch l i = match atomM ch l i with
 | .error x => .error x
 | .ok (t, j) => repK l t j := rfl
set_option maxHeartbeats 8000000 in
set_option maxRecDepth 1000000 in
theorem rep_any (b : Nat) (l : List UInt8) (i : Nat) (r : Out NT) (ha : RdZ 69 b l i r) (R : Out NT) (hRe : ∀ j e, e ≠ 0 → r = .error (j, e) → R = .error (j, e)) (hRo : ∀ t j, r = .ok (t, j) → R = repK l t j) : RdZ 55 b l i R := by
 intro w h
 have HTN := Lib.hid fun (d : Nat) (k e : Nat) (hk : nxN l k e ≠ d) W (hW : ZS b l k e W) => ztakes_no b l k e W hW d hk
 have HTY := Lib.hid fun (d : Nat) (hd : d < 256) (k : Nat) (hk : Asc.at_ l k = d) W (hW : ZS b l k 0 W) => ztakes_yes b l k W hW d hk hd
 have HBD := Lib.hid fun (k : Nat) W (hW : ZS b l k 0 W) => bounds_any b l k W hW
 have HA := Lib.hid ha
 have HRE := Lib.hid hRe
 have HRO := Lib.hid hRo
 have HS := Lib.hid (ZR.start h)
 clear h ha hRe hRo
 go_enter Tryd.func55, Tryd.ntmps55
 go_wp2_with fail
 refine (HA.out _ HS.out.ps).mono ?_
 rintro e wc ⟨v, t, j, e2, rfl, hT, hq, hr⟩
 have HS1 := Lib.hid (HS.out.go hq)
 have HT1 := Lib.hid (hT.up HS.out.sz)
 have HF := Lib.hid hr
 obtain ⟨op, rs, nm, kids, mn, mx, ra, rc, a, cc, ht, rfl, _⟩ := hT.open
 have HP := Lib.hid (ZA.start HS1.out HT1.out)
 clear hT hq ht HS HS1 HT1 hr
 by_cases h42 : nxN l j e2 = 42
 ·obtain rfl : e2 = 0 := Decidable.byContradiction fun hne => by rw [nxN_err hne] at h42; cases h42
  have HD := Lib.hid h42
  have HRK : Hid (R = repK l t j) := Lib.hid (by rcases fits_cases HF.out with ⟨hm, _⟩ | ⟨_, he⟩; (exact HRO.out _ _ hm); (exact absurd rfl he))
  clear h42
  go_wp2_with fail
  refine (HTY.out 42 (by decide) _ (HD.out) _ HP.out.pr.ps).mono ?_
  rintro e w1 ⟨rfl, hq⟩
  have HP1 := Lib.hid (HP.out.go hq)
  clear hq HP
  obtain ⟨q0, q1, q2, q3, q4, q5⟩ := bkn HP1.out.bk
  obtain ⟨q, hq⟩ : ∃ q, wc.heap.size = q := ⟨_, rfl⟩
  rw [hq] at q0 q1 q2 q3 q4 q5 ⊢
  have hqw : q ≠ w.heap.size := by have := HP1.out.hq; omega
  have HR5 := Lib.hid (HP1.out.pr.on (al_below w1 (.cells #[.int .i64 op, .slice ra rs.length rc, .string ⟨nm.toArray⟩, .slice a kids.length cc, .int .i64 mn, .int .i64 mx] 29)))
  have HK : Hid (RW (fun k => w.heap.size < k) 6 (KR (fun k => w.heap.size < k) (w1.alloc (.cells #[.int .i64 op, .slice ra rs.length rc, .string ⟨nm.toArray⟩, .slice a kids.length cc, .int .i64 mn, .int .i64 mx] 29))) (w1.alloc (.cells #[.int .i64 op, .slice ra rs.length rc, .string ⟨nm.toArray⟩, .slice a kids.length cc, .int .i64 mn, .int .i64 mx] 29)) [t] (.slice (some ⟨w1.heap.size, 0, none⟩) 1 1)) :=
   Lib.hid ((OR.lit (B := w.heap.size + 1) w1 t [.int .i64 op, .slice ra rs.length rc, .string ⟨nm.toArray⟩, .slice a kids.length cc, .int .i64 mn, .int .i64 mx] HP1.out.pr.sz rfl (HP1.out.ng.low (al_below w1 _))).rw (fun _ hb => hb))
  obtain ⟨k0, k1, k2, k3, k4, k5, f0, f1, f2, f3, f4, f5⟩ := bk6 HR5.out.bk
  go_wp2_with fail
  rw [nest6]
  exact node_retz (P := 2) rfl HR5.out _ _ rfl (by rfl) (NG.node (rs := []) (kids := [t]) RW.nil HK.out 4 [] 0 (-1) (by simp)) (by rw [HRK.out]; unfold repK; have hd : Asc.at_ l j = 42 := HD.out; rw [if_pos hd]; exact fits_ok)
 by_cases h43 : nxN l j e2 = 43
 ·obtain rfl : e2 = 0 := Decidable.byContradiction fun hne => by rw [nxN_err hne] at h43; cases h43
  have HD := Lib.hid h43
  have HRK : Hid (R = repK l t j) := Lib.hid (by rcases fits_cases HF.out with ⟨hm, _⟩ | ⟨_, he⟩; (exact HRO.out _ _ hm); (exact absurd rfl he))
  clear h43
  go_wp2_with fail
  refine (HTN.out 42 _ _ (by rw [HD.out]; decide) _ HP.out.pr.ps).mono ?_
  rintro e w1 ⟨rfl, hq⟩
  have HP1 := Lib.hid (HP.out.go hq)
  clear hq HP
  go_wp2_with fail
  refine (HTY.out 43 (by decide) _ (HD.out) _ HP1.out.pr.ps).mono ?_
  rintro e w2 ⟨rfl, hq⟩
  have HP2 := Lib.hid (HP1.out.go hq)
  clear hq HP1
  obtain ⟨q0, q1, q2, q3, q4, q5⟩ := bkn HP2.out.bk
  obtain ⟨q, hq⟩ : ∃ q, wc.heap.size = q := ⟨_, rfl⟩
  rw [hq] at q0 q1 q2 q3 q4 q5 ⊢
  have hqw : q ≠ w.heap.size := by have := HP2.out.hq; omega
  have HR5 := Lib.hid (HP2.out.pr.on (al_below w2 (.cells #[.int .i64 op, .slice ra rs.length rc, .string ⟨nm.toArray⟩, .slice a kids.length cc, .int .i64 mn, .int .i64 mx] 29)))
  have HK : Hid (RW (fun k => w.heap.size < k) 6 (KR (fun k => w.heap.size < k) (w2.alloc (.cells #[.int .i64 op, .slice ra rs.length rc, .string ⟨nm.toArray⟩, .slice a kids.length cc, .int .i64 mn, .int .i64 mx] 29))) (w2.alloc (.cells #[.int .i64 op, .slice ra rs.length rc, .string ⟨nm.toArray⟩, .slice a kids.length cc, .int .i64 mn, .int .i64 mx] 29)) [t] (.slice (some ⟨w2.heap.size, 0, none⟩) 1 1)) :=
   Lib.hid ((OR.lit (B := w.heap.size + 1) w2 t [.int .i64 op, .slice ra rs.length rc, .string ⟨nm.toArray⟩, .slice a kids.length cc, .int .i64 mn, .int .i64 mx] HP2.out.pr.sz rfl (HP2.out.ng.low (al_below w2 _))).rw (fun _ hb => hb))
  obtain ⟨k0, k1, k2, k3, k4, k5, f0, f1, f2, f3, f4, f5⟩ := bk6 HR5.out.bk
  go_wp2_with fail
  rw [nest6]
  exact node_retz (P := 2) rfl HR5.out _ _ rfl (by rfl) (NG.node (rs := []) (kids := [t]) RW.nil HK.out 4 [] 1 (-1) (by simp)) (by rw [HRK.out]; unfold repK; have hd : Asc.at_ l j = 43 := HD.out; rw [if_neg (by rw [hd]; decide)]; rw [if_pos hd]; exact fits_ok)
 by_cases h63 : nxN l j e2 = 63
 ·obtain rfl : e2 = 0 := Decidable.byContradiction fun hne => by rw [nxN_err hne] at h63; cases h63
  have HD := Lib.hid h63
  have HRK : Hid (R = repK l t j) := Lib.hid (by rcases fits_cases HF.out with ⟨hm, _⟩ | ⟨_, he⟩; (exact HRO.out _ _ hm); (exact absurd rfl he))
  clear h63
  go_wp2_with fail
  refine (HTN.out 42 _ _ (by rw [HD.out]; decide) _ HP.out.pr.ps).mono ?_
  rintro e w1 ⟨rfl, hq⟩
  have HP1 := Lib.hid (HP.out.go hq)
  clear hq HP
  go_wp2_with fail
  refine (HTN.out 43 _ _ (by rw [HD.out]; decide) _ HP1.out.pr.ps).mono ?_
  rintro e w2 ⟨rfl, hq⟩
  have HP2 := Lib.hid (HP1.out.go hq)
  clear hq HP1
  go_wp2_with fail
  refine (HTY.out 63 (by decide) _ (HD.out) _ HP2.out.pr.ps).mono ?_
  rintro e w3 ⟨rfl, hq⟩
  have HP3 := Lib.hid (HP2.out.go hq)
  clear hq HP2
  obtain ⟨q0, q1, q2, q3, q4, q5⟩ := bkn HP3.out.bk
  obtain ⟨q, hq⟩ : ∃ q, wc.heap.size = q := ⟨_, rfl⟩
  rw [hq] at q0 q1 q2 q3 q4 q5 ⊢
  have hqw : q ≠ w.heap.size := by have := HP3.out.hq; omega
  have HR5 := Lib.hid (HP3.out.pr.on (al_below w3 (.cells #[.int .i64 op, .slice ra rs.length rc, .string ⟨nm.toArray⟩, .slice a kids.length cc, .int .i64 mn, .int .i64 mx] 29)))
  have HK : Hid (RW (fun k => w.heap.size < k) 6 (KR (fun k => w.heap.size < k) (w3.alloc (.cells #[.int .i64 op, .slice ra rs.length rc, .string ⟨nm.toArray⟩, .slice a kids.length cc, .int .i64 mn, .int .i64 mx] 29))) (w3.alloc (.cells #[.int .i64 op, .slice ra rs.length rc, .string ⟨nm.toArray⟩, .slice a kids.length cc, .int .i64 mn, .int .i64 mx] 29)) [t] (.slice (some ⟨w3.heap.size, 0, none⟩) 1 1)) :=
   Lib.hid ((OR.lit (B := w.heap.size + 1) w3 t [.int .i64 op, .slice ra rs.length rc, .string ⟨nm.toArray⟩, .slice a kids.length cc, .int .i64 mn, .int .i64 mx] HP3.out.pr.sz rfl (HP3.out.ng.low (al_below w3 _))).rw (fun _ hb => hb))
  obtain ⟨k0, k1, k2, k3, k4, k5, f0, f1, f2, f3, f4, f5⟩ := bk6 HR5.out.bk
  go_wp2_with fail
  rw [nest6]
  exact node_retz (P := 2) rfl HR5.out _ _ rfl (by rfl) (NG.node (rs := []) (kids := [t]) RW.nil HK.out 4 [] 0 1 (by simp)) (by rw [HRK.out]; unfold repK; have hd : Asc.at_ l j = 63 := HD.out; rw [if_neg (by rw [hd]; decide)]; rw [if_neg (by rw [hd]; decide)]; rw [if_pos hd]; exact fits_ok)
 by_cases h123 : nxN l j e2 = 123
 ·obtain rfl : e2 = 0 := Decidable.byContradiction fun hne => by rw [nxN_err hne] at h123; cases h123
  have HD := Lib.hid h123
  have HRK : Hid (R = repK l t j) := Lib.hid (by rcases fits_cases HF.out with ⟨hm, _⟩ | ⟨_, he⟩; (exact HRO.out _ _ hm); (exact absurd rfl he))
  clear h123
  go_wp2_with fail
  refine (HTN.out 42 _ _ (by rw [HD.out]; decide) _ HP.out.pr.ps).mono ?_
  rintro e w1 ⟨rfl, hq⟩
  have HP1 := Lib.hid (HP.out.go hq)
  clear hq HP
  go_wp2_with fail
  refine (HTN.out 43 _ _ (by rw [HD.out]; decide) _ HP1.out.pr.ps).mono ?_
  rintro e w2 ⟨rfl, hq⟩
  have HP2 := Lib.hid (HP1.out.go hq)
  clear hq HP1
  go_wp2_with fail
  refine (HTN.out 63 _ _ (by rw [HD.out]; decide) _ HP2.out.pr.ps).mono ?_
  rintro e w3 ⟨rfl, hq⟩
  have HP3 := Lib.hid (HP2.out.go hq)
  clear hq HP2
  go_wp2_with fail
  refine (HTY.out 123 (by decide) _ (HD.out) _ HP3.out.pr.ps).mono ?_
  rintro e w4 ⟨rfl, hq⟩
  have HP4 := Lib.hid (HP3.out.go hq)
  clear hq HP3
  go_wp2_with fail
  refine (HBD.out _ _ HP4.out.pr.ps).mono ?_
  rintro e w6 ⟨lo, hi, k, e3, rfl, hq, hr3⟩
  have HP6 := Lib.hid (HP4.out.go hq)
  have HR3 := Lib.hid (fits_cases hr3)
  clear hq hr3 HP4
  obtain ⟨q0, q1, q2, q3, q4, q5⟩ := bkn HP6.out.bk
  obtain ⟨q, hq⟩ : ∃ q, wc.heap.size = q := ⟨_, rfl⟩
  rw [hq] at q0 q1 q2 q3 q4 q5 ⊢
  have hqw : q ≠ w.heap.size := by have := HP6.out.hq; omega
  have HR5 := Lib.hid (HP6.out.pr.on (al_below w6 (.cells #[.int .i64 op, .slice ra rs.length rc, .string ⟨nm.toArray⟩, .slice a kids.length cc, .int .i64 mn, .int .i64 mx] 29)))
  have HK : Hid (RW (fun k => w.heap.size < k) 6 (KR (fun k => w.heap.size < k) (w6.alloc (.cells #[.int .i64 op, .slice ra rs.length rc, .string ⟨nm.toArray⟩, .slice a kids.length cc, .int .i64 mn, .int .i64 mx] 29))) (w6.alloc (.cells #[.int .i64 op, .slice ra rs.length rc, .string ⟨nm.toArray⟩, .slice a kids.length cc, .int .i64 mn, .int .i64 mx] 29)) [t] (.slice (some ⟨w6.heap.size, 0, none⟩) 1 1)) :=
   Lib.hid ((OR.lit (B := w.heap.size + 1) w6 t [.int .i64 op, .slice ra rs.length rc, .string ⟨nm.toArray⟩, .slice a kids.length cc, .int .i64 mn, .int .i64 mx] HP6.out.pr.sz rfl (HP6.out.ng.low (al_below w6 _))).rw (fun _ hb => hb))
  obtain ⟨k0, k1, k2, k3, k4, k5, f0, f1, f2, f3, f4, f5⟩ := bk6 HR5.out.bk
  go_wp2_with fail
  rw [nest6]
  exact node_retz (P := 2) rfl HR5.out _ _ rfl (by rfl) (NG.node (rs := []) (kids := [t]) RW.nil HK.out 4 [] lo hi (by simp)) (by rw [HRK.out]; unfold repK; have hd : Asc.at_ l j = 123 := HD.out; rw [if_neg (by rw [hd]; decide)]; rw [if_neg (by rw [hd]; decide)]; rw [if_neg (by rw [hd]; decide)]; rw [if_pos hd]; rcases HR3.out with ⟨hm, rfl⟩ | ⟨hm, he⟩; (rw [hm]; exact fits_ok); (rw [hm]; exact fits_err he))
 have H42 := Lib.hid h42
 have H43 := Lib.hid h43
 have H63 := Lib.hid h63
 have H123 := Lib.hid h123
 clear h42 h43 h63 h123
 go_wp2_with fail
 refine (HTN.out 42 _ _ (H42.out) _ HP.out.pr.ps).mono ?_
 rintro e w1 ⟨rfl, hq⟩
 have HP1 := Lib.hid (HP.out.go hq)
 clear hq HP
 go_wp2_with fail
 refine (HTN.out 43 _ _ (H43.out) _ HP1.out.pr.ps).mono ?_
 rintro e w2 ⟨rfl, hq⟩
 have HP2 := Lib.hid (HP1.out.go hq)
 clear hq HP1
 go_wp2_with fail
 refine (HTN.out 63 _ _ (H63.out) _ HP2.out.pr.ps).mono ?_
 rintro e w3 ⟨rfl, hq⟩
 have HP3 := Lib.hid (HP2.out.go hq)
 clear hq HP2
 go_wp2_with fail
 refine (HTN.out 123 _ _ (H123.out) _ HP3.out.pr.ps).mono ?_
 rintro e w5 ⟨rfl, hq⟩
 have HP5 := Lib.hid (HP3.out.go hq)
 clear hq HP3
 obtain ⟨q0, q1, q2, q3, q4, q5⟩ := bkn HP5.out.bk
 obtain ⟨q, hq⟩ : ∃ q, wc.heap.size = q := ⟨_, rfl⟩
 rw [hq] at q0 q1 q2 q3 q4 q5 ⊢
 have hqw : q ≠ w.heap.size := by have := HP5.out.hq; omega
 obtain ⟨k0, k1, k2, k3, k4, k5, f0, f1, f2, f3, f4, f5⟩ := bk6 HP5.out.pr.bk
 go_wp2_with fail
 rw [nest6 w5]
 exact node_retz (P := 2) rfl HP5.out.pr _ _ rfl (by rfl) HP5.out.ng (by
  rcases fits_cases HF.out with ⟨hm, rfl⟩ | ⟨hm, he⟩
  ·rw [HRO.out _ _ hm]
   unfold repK
   have a42 : ¬ Asc.at_ l j = 42 := H42.out
   have a43 : ¬ Asc.at_ l j = 43 := H43.out
   have a63 : ¬ Asc.at_ l j = 63 := H63.out
   have a123 : ¬ Asc.at_ l j = 123 := H123.out
   rw [if_neg a42, if_neg a43, if_neg a63, if_neg a123]
   exact fits_ok
  ·rw [HRE.out _ _ he hm]
   exact fits_err he)
end Go.Proofs.YtihdnlpelfgklaaDoor
namespace Go.Proofs.YtihdnlpelfgklaaDoor
open Go.RowKit
theorem braL_le (l : List UInt8) (n : Nat) : ∀ first i f g j, braL l n first i f = .ok (g, j) → i ≤ j := by
 induction n with
 | zero => intro first i f g j h; cases h
 | succ n ih =>
  intro first i f g j h
  rw [braL] at h
  split at h
  ·injection h with h
   injection h with _ h
   omega
  ·split at h
   ·cases h
   ·rename_i s lo one k hm
    have h1 := itemM_lt hm
    split at h
    ·split at h
     ·cases h
     ·rename_i s2 hi o2 k2 hm2
      have h2 := itemM_lt hm2
      split at h
      ·cases h
      ·have := ih _ _ _ _ _ h
       omega
    ·have := ih _ _ _ _ _ h
     omega
theorem braM_lt {l : List UInt8} {i : Nat} {t : NT} {j : Nat} (h : braM l i = .ok (t, j)) : i < j := by
 unfold braM at h
 split at h
 ·cases h
 ·rename_i f k hm
  injection h with h
  injection h with _ h
  have := braL_le _ _ _ _ _ _ _ hm
  split at this <;> omega
theorem boundM_lt {l : List UInt8} {i v j : Nat} (h : boundM l i = .ok (v, j)) : i < j := by
 unfold boundM at h
 repeat' split at h
 all_goals first
  | cases h; done
  | (injection h with h; injection h with _ h; omega)
theorem boundsM_lt {l : List UInt8} {i : Nat} {x : Int × Int} {j : Nat} (h : boundsM l i = .ok (x, j)) : i < j := by
 unfold boundsM at h
 split at h
 ·cases h
 ·rename_i lo k hm
  have h1 := boundM_lt hm
  split at h
  ·split at h
   ·injection h with h
    injection h with _ h
    omega
   ·split at h
    ·cases h
    ·rename_i hi k2 hm2
     have h2 := boundM_lt hm2
     repeat' split at h
     all_goals first
      | cases h; done
      | (injection h with h; injection h with _ h; omega)
  ·split at h
   ·injection h with h
    injection h with _ h
    omega
   ·cases h
theorem grpI_le (l : List UInt8) (i : Nat) : i ≤ grpI l i := by unfold grpI; split <;> omega
def Goes (ch : Nat → Out NT) : Prop := ∀ i t j, ch i = .ok (t, j) → i ≤ j
theorem atomM_lt {ch : Nat → Out NT} (hc : Goes ch) {l : List UInt8} {i : Nat} {t : NT} {j : Nat} (h : atomM ch l i = .ok (t, j)) : i < j := by
 unfold atomM at h
 split at h
 ·unfold grpM at h
  split at h
  ·cases h
  ·rename_i t2 k hm
   have := hc _ _ _ hm
   have := grpI_le l (i + 1)
   split at h
   ·injection h with h
    injection h with _ h
    omega
   ·cases h
 split at h
 ·have := braM_lt h
  omega
 split at h
 ·injection h with h
  injection h with _ h
  omega
 split at h
 ·injection h with h
  injection h with _ h
  omega
 split at h
 ·injection h with h
  injection h with _ h
  omega
 split at h
 ·split at h
  ·cases h
  ·rename_i s c one k hm
   have := escM_lt hm
   injection h with h
   injection h with _ h
   omega
 split at h
 ·injection h with h
  injection h with _ h
  omega
 ·cases h
theorem repK_le {l : List UInt8} {t t2 : NT} {i j : Nat} (h : repK l t i = .ok (t2, j)) : i ≤ j := by
 unfold repK at h
 split at h
 ·injection h with h
  injection h with _ h
  omega
 split at h
 ·injection h with h
  injection h with _ h
  omega
 split at h
 ·injection h with h
  injection h with _ h
  omega
 split at h
 ·split at h
  ·cases h
  ·rename_i lo hi k hm
   have := boundsM_lt hm
   injection h with h
   injection h with _ h
   omega
 ·injection h with h
  injection h with _ h
  omega
theorem repM_lt {ch : Nat → Out NT} (hc : Goes ch) {l : List UInt8} {i : Nat} {t : NT} {j : Nat} (h : repM ch l i = .ok (t, j)) : i < j := by
 rw [repM_eq] at h
 split at h
 ·cases h
 ·rename_i t2 k hm
  have := atomM_lt hc hm
  have := repK_le h
  omega
theorem catL_le {ch : Nat → Out NT} (hc : Goes ch) (l : List UInt8) (n : Nat) : ∀ i ts t j, catL ch l n i ts = .ok (t, j) → i ≤ j := by
 induction n with
 | zero => intro i ts t j h; cases h
 | succ n ih =>
  intro i ts t j h
  rw [catL] at h
  split at h
  ·injection h with h
   injection h with _ h
   omega
  ·split at h
   ·cases h
   ·rename_i t2 k hm
    have := repM_lt hc hm
    have := ih _ _ _ _ h
    omega
theorem catM_le {ch : Nat → Out NT} (hc : Goes ch) {l : List UInt8} {i : Nat} {t : NT} {j : Nat} (h : catM ch l i = .ok (t, j)) : i ≤ j := catL_le hc l _ _ _ _ _ h
theorem altL_le {ch : Nat → Out NT} (hc : Goes ch) (l : List UInt8) (n : Nat) : ∀ i ts t j, altL ch l n i ts = .ok (t, j) → i ≤ j := by
 induction n with
 | zero => intro i ts t j h; cases h
 | succ n ih =>
  intro i ts t j h
  rw [altL] at h
  split at h
  ·split at h
   ·cases h
   ·rename_i t2 k hm
    have := catM_le hc hm
    have := ih _ _ _ _ h
    omega
  ·injection h with h
   injection h with _ h
   omega
theorem choB_goes {ch : Nat → Out NT} (hc : Goes ch) (l : List UInt8) : Goes (choB ch l) := by
 intro i t j h
 unfold choB at h
 split at h
 ·cases h
 ·rename_i t2 k hm
  have := catM_le hc hm
  have := altL_le hc _ _ _ _ _ _ h
  omega
theorem choM_goes (l : List UInt8) (d : Nat) : Goes (choM l d) := by
 induction d with
 | zero => intro i t j h; cases h
 | succ d ih => exact choB_goes ih l
def CatI (ch : Nat → Out NT) (l : List UInt8) (R : Out NT) (k e : Nat) (ts : List NT) : Prop := (e = 0 ∧ ∃ n, l.length < k + n ∧ catL ch l n k ts = R) ∨ (e ≠ 0 ∧ R = .error (k, e))
theorem CatI.stop {ch : Nat → Out NT} {l : List UInt8} {R : Out NT} {k e : Nat} {ts : List NT} (h : CatI ch l R k e ts) (hk : k ≤ l.length) (hs : nxN l k e = 999 ∨ nxN l k e = 124 ∨ nxN l k e = 41) : fits R (joinT 2 ts) k e := by
 rcases h with ⟨rfl, n, hn, hr⟩ | ⟨he, hr⟩
 ·cases n with
  | zero => omega
  | succ n =>
   rw [nxN_ok] at hs
   rw [catL, if_pos hs] at hr
   rw [← hr]
   exact fits_ok
 ·rw [hr]
  exact fits_err he
theorem CatI.next {ch : Nat → Out NT} {l : List UInt8} {R : Out NT} {k : Nat} {ts : List NT} (h : CatI ch l R k 0 ts) (hc : Goes ch) (hk : k ≤ l.length) (hs : ¬ (Asc.at_ l k = 999 ∨ Asc.at_ l k = 124 ∨ Asc.at_ l k = 41)) {t : NT} {j e : Nat} (hf : fits (repM ch l k) t j e) : CatI ch l R j e (ts ++ [t]) ∧ (e = 0 → k < j) := by
 rcases h with ⟨_, n, hn, hr⟩ | ⟨he, hr⟩
 ·cases n with
  | zero => omega
  | succ n =>
   rw [catL, if_neg hs] at hr
   rcases fits_cases hf with ⟨hm, rfl⟩ | ⟨hm, he⟩
   ·have := repM_lt hc hm
    rw [hm] at hr
    exact ⟨.inl ⟨rfl, n, by omega, hr⟩, fun _ => this⟩
   ·rw [hm] at hr
    exact ⟨.inr ⟨he, hr.symm⟩, fun h => absurd h he⟩
 ·exact absurd rfl he
set_option maxHeartbeats 8000000 in
set_option maxRecDepth 1000000 in
theorem cat_any (b : Nat) (l : List UInt8) (ch : Nat → Out NT) (hc : Goes ch) (i : Nat) (hrep : ∀ k, i ≤ k → RdZ 55 b l k (repM ch l k)) : RdZ 37 b l i (catM ch l i) := by
 intro w h
 have HRP := Lib.hid hrep
 have HGO := Lib.hid hc
 have HS := Lib.hid (ZL.start (ZR.start h))
 have hile := h.le
 obtain ⟨R, hR⟩ : ∃ R, catM ch l i = R := ⟨_, rfl⟩
 rw [hR]
 have HI0 : Hid (CatI ch l R i 0 []) := Lib.hid (.inl ⟨rfl, l.length + 1, by omega, hR⟩)
 have HNX := Lib.hid fun (k v : Nat) (hv : Asc.at_ l k = v) (hv2 : v < 256) W (hW : ZS b l k 0 W) => znext_ok b l k W hW v hv hv2
 have HNE := Lib.hid fun (k e : Nat) (hv : nxN l k e = 999) W (hW : ZS b l k e W) => znext_no b l k e W hW hv
 clear h hrep hR hc
 obtain ⟨i0, hi, hz0, hz1, hz2⟩ := info_parts infoN
 go_enter Tryd.func37, Tryd.ntmps37
 go_wp2_with fail
 go_loopw [3, 4, 5] (fun v _ _ wr => ∃ (k e : Nat) (kids : List NT), Hid (CatI ch l R k e kids) ∧ (e = 0 → i ≤ k) ∧ kids.length ≤ 1001 ∧ (e = 0 → kids.length ≤ k) ∧ Hid (ZL b l k e w kids v wr)) (fun _ _ _ wr => leftAt b wr)
 case atStart => exact ⟨i, 0, [], HI0, fun _ => Nat.le_refl _, by simp, by simp, HS⟩
 case round =>
  obtain ⟨k, e, kids, HI, hik, hlen, hlk, HL⟩ := hrel
  clear HS HI0
  have HIK := Lib.hid hik
  have HLK := Lib.hid hlk
  have hrow := HL.out.rows
  obtain ⟨ra, rc, rfl, _⟩ := hrow
  have hkl := HL.out.pr.ps.le
  have hl2 := HL.out.pr.ps.len
  clear hik hlk
  by_cases hs : nxN l k e = 999 ∨ nxN l k e = 124 ∨ nxN l k e = 41
  ·have HF := Lib.hid (HI.out.stop hkl hs)
   rcases hs with hs | hs | hs
   ·have HN := Lib.hid (HNE.out k e hs)
    clear hs
    go_wp2_with fail
    refine (HN.out _ HL.out.pr.ps).mono ?_
    rintro e9 w1 ⟨rfl, hq⟩
    have HS1 := Lib.hid (HL.out.go hq)
    clear hq HL
    go_wp2_with fail
    refine (join_any 2 kids _ _ (w.heap.size + 1) HS1.out.rows).mono ?_
    rintro e9 w3 ⟨x, rfl, hT, hb⟩
    have HS3 := Lib.hid (HS1.out.pr.on hb)
    have HT3 := Lib.hid hT
    obtain ⟨op, rs, nm, kk, mn, mx, ra2, rc2, a, cc, ht, rfl, _⟩ := hT.open
    clear hT hb ht HS1
    obtain ⟨k0, k1, k2, k3, k4, k5, f0, f1, f2, f3, f4, f5⟩ := bk6 HS3.out.bk
    go_wp2_with fail
    rw [nest6 w3]
    exact node_retz (P := 2) rfl HS3.out _ _ rfl (by rfl) HT3.out HF.out
   ·obtain rfl : e = 0 := Decidable.byContradiction fun hne => by rw [nxN_err hne] at hs; cases hs
    have HN := Lib.hid (HNX.out k 124 hs (by decide))
    clear hs
    go_wp2_with fail
    refine (HN.out _ HL.out.pr.ps).mono ?_
    rintro e9 w1 ⟨rfl, hq⟩
    have HS1 := Lib.hid (HL.out.go hq)
    clear hq HL
    go_wp2_with fail
    refine (join_any 2 kids _ _ (w.heap.size + 1) HS1.out.rows).mono ?_
    rintro e9 w3 ⟨x, rfl, hT, hb⟩
    have HS3 := Lib.hid (HS1.out.pr.on hb)
    have HT3 := Lib.hid hT
    obtain ⟨op, rs, nm, kk, mn, mx, ra2, rc2, a, cc, ht, rfl, _⟩ := hT.open
    clear hT hb ht HS1
    obtain ⟨k0, k1, k2, k3, k4, k5, f0, f1, f2, f3, f4, f5⟩ := bk6 HS3.out.bk
    go_wp2_with fail
    rw [nest6 w3]
    exact node_retz (P := 2) rfl HS3.out _ _ rfl (by rfl) HT3.out HF.out
   ·obtain rfl : e = 0 := Decidable.byContradiction fun hne => by rw [nxN_err hne] at hs; cases hs
    have HN := Lib.hid (HNX.out k 41 hs (by decide))
    clear hs
    go_wp2_with fail
    refine (HN.out _ HL.out.pr.ps).mono ?_
    rintro e9 w1 ⟨rfl, hq⟩
    have HS1 := Lib.hid (HL.out.go hq)
    clear hq HL
    go_wp2_with fail
    refine (join_any 2 kids _ _ (w.heap.size + 1) HS1.out.rows).mono ?_
    rintro e9 w3 ⟨x, rfl, hT, hb⟩
    have HS3 := Lib.hid (HS1.out.pr.on hb)
    have HT3 := Lib.hid hT
    obtain ⟨op, rs, nm, kk, mn, mx, ra2, rc2, a, cc, ht, rfl, _⟩ := hT.open
    clear hT hb ht HS1
    obtain ⟨k0, k1, k2, k3, k4, k5, f0, f1, f2, f3, f4, f5⟩ := bk6 HS3.out.bk
    go_wp2_with fail
    rw [nest6 w3]
    exact node_retz (P := 2) rfl HS3.out _ _ rfl (by rfl) HT3.out HF.out
  ·obtain rfl : e = 0 := Decidable.byContradiction fun hne => hs (.inl (nxN_err hne))
   rw [nxN_ok] at hs
   have HST := Lib.hid hs
   obtain ⟨vv, hv⟩ : ∃ v, Asc.at_ l k = v := ⟨_, rfl⟩
   have h1 : vv < 256 := by
    rcases at_two l k with h9 | h9
    ·omega
    ·exact absurd (.inl h9) hs
   have HN := Lib.hid (HNX.out k vv hv h1)
   rw [hv] at hs
   have z1 : ((vv : Int) == 124) = false := by rw [beq_eq_false_iff_ne]; omega
   have z2 : ((vv : Int) == 41) = false := by rw [beq_eq_false_iff_ne]; omega
   have HR := Lib.hid (HRP.out k (HIK.out rfl))
   clear hs hv
   go_wp2_with fail
   refine (HN.out _ HL.out.pr.ps).mono ?_
   rintro e9 w1 ⟨rfl, hq⟩
   have HS1 := Lib.hid (HL.out.go hq)
   clear hq
   go_wp2_with fail
   refine (HR.out _ HS1.out.pr.ps).mono ?_
   rintro e9 w2 ⟨x, t, j, e2, rfl, hT, hq, hf⟩
   have HS2 := Lib.hid (HS1.out.go hq)
   have HT2 := Lib.hid (HS1.out.new hT)
   have HI2 := Lib.hid (HI.out.next HGO.out hkl HST.out hf)
   obtain ⟨op, rs, nm, kk, mn, mx, ra2, rc2, a, cc, ht, rfl, _⟩ := hT.open
   clear hq hT ht HS1 hf
   obtain ⟨cs, hown, hpush⟩ := HS2.out.row.cells
   have HPU := Lib.hid hpush
   have HSZ := Lib.hid HS2.out.pr.sz
   have hlk := HLK.out (by first | rfl | trivial)
   clear hpush
   go_wp2_with (at_builtin; refine wpList_append_lies _ rfl _ _ 27 rfl (w.heap.size + 1) 29 i0 (.agg #[.int .i64 0, .slice none 0 0, .string ⟨#[]⟩, .slice none 0 0, .int .i64 0, .int .i64 0]) 6 88 Tryd.underlying27 hi hz0 hz1 hz2 rfl (by decide) _ kids.length cs rfl (hown.alloc _) ⟨w2.heap.size, 0, none⟩ 1 1 [.int .i64 op, .slice ra2 rs.length rc2, .string ⟨nm.toArray⟩, .slice a kk.length cc, .int .i64 mn, .int .i64 mx] rfl rfl (World.news_of_block (heap_alloc_new w2 _)) (node_one _ _ _ _ _ _ _ _ _ _) (by omega) (by unfold maxLen; omega) (by omega) (Nat.le_trans HSZ.out (by simp)) _ rfl ?_; intro g6 cap6 w6 hown6 hgr6 hat6 hlt6; have HS6 := Lib.hid (HS2.out.push cs hown HPU.out hgr6 hat6 rfl _ rfl HT2.out (by omega) hown6); clear hown6 hgr6 hat6 hlt6 hown)
   refine ⟨⟨j, e2, kids ++ [t], Lib.hid HI2.out.1, fun he => ?_, by simp; omega, fun he => ?_, HS6⟩, ?_⟩
   ·have := HI2.out.2 he
    have := HIK.out (by first | rfl | trivial)
    omega
   ·have := HI2.out.2 he
    simp
    omega
   ·rw [HS6.out.pr.ps.left, HL.out.pr.ps.left, if_pos rfl]
    by_cases he : e2 = 0
    ·have := HI2.out.2 he
     rw [if_pos he]
     omega
    ·rw [if_neg he]
     omega
def AltI (ch : Nat → Out NT) (l : List UInt8) (R : Out NT) (k e : Nat) (ts : List NT) : Prop := (e = 0 ∧ ∃ n, l.length < k + n ∧ altL ch l n k ts = R) ∨ (e ≠ 0 ∧ R = .error (k, e))
theorem AltI.stop {ch : Nat → Out NT} {l : List UInt8} {R : Out NT} {k e : Nat} {ts : List NT} (h : AltI ch l R k e ts) (hk : k ≤ l.length) (hs : nxN l k e ≠ 124) : fits R (joinT 3 ts) k e := by
 rcases h with ⟨rfl, n, hn, hr⟩ | ⟨he, hr⟩
 ·cases n with
  | zero => omega
  | succ n =>
   rw [nxN_ok] at hs
   rw [altL, if_neg hs] at hr
   rw [← hr]
   exact fits_ok
 ·rw [hr]
  exact fits_err he
theorem AltI.next {ch : Nat → Out NT} {l : List UInt8} {R : Out NT} {k : Nat} {ts : List NT} (h : AltI ch l R k 0 ts) (hc : Goes ch) (hk : k ≤ l.length) (hs : Asc.at_ l k = 124) {t : NT} {j e : Nat} (hf : fits (catM ch l (k + 1)) t j e) : AltI ch l R j e (ts ++ [t]) ∧ (e = 0 → k < j) := by
 rcases h with ⟨_, n, hn, hr⟩ | ⟨he, hr⟩
 ·cases n with
  | zero => omega
  | succ n =>
   rw [altL, if_pos hs] at hr
   rcases fits_cases hf with ⟨hm, rfl⟩ | ⟨hm, he⟩
   ·have := catM_le hc hm
    rw [hm] at hr
    exact ⟨.inl ⟨rfl, n, by omega, hr⟩, fun _ => by omega⟩
   ·rw [hm] at hr
    exact ⟨.inr ⟨he, hr.symm⟩, fun h => absurd h he⟩
 ·exact absurd rfl he
theorem AltI.start {ch : Nat → Out NT} {l : List UInt8} {i : Nat} {t : NT} {j e : Nat} (hf : fits (catM ch l i) t j e) : AltI ch l (choB ch l i) j e [t] := by
 unfold choB
 rcases fits_cases hf with ⟨hm, rfl⟩ | ⟨hm, he⟩
 ·rw [hm]
  exact .inl ⟨rfl, l.length + 1, by omega, rfl⟩
 ·rw [hm]
  exact .inr ⟨he, rfl⟩
set_option maxHeartbeats 8000000 in
set_option maxRecDepth 1000000 in
theorem cho_any (b : Nat) (l : List UInt8) (ch : Nat → Out NT) (hc : Goes ch) (i : Nat) (hcat : ∀ k, i ≤ k → RdZ 37 b l k (catM ch l k)) : RdZ 26 b l i (choB ch l i) := by
 intro w h
 have HCT := Lib.hid hcat
 have HGO := Lib.hid hc
 have HS := Lib.hid (ZR.start h)
 have HTY := Lib.hid fun (k : Nat) (hk : Asc.at_ l k = 124) W (hW : ZS b l k 0 W) => ztakes_yes b l k W hW 124 hk (by decide)
 have HTN := Lib.hid fun (k e : Nat) (hk : nxN l k e ≠ 124) W (hW : ZS b l k e W) => ztakes_no b l k e W hW 124 hk
 have hl2 := h.len
 have H0 := Lib.hid (hcat i (Nat.le_refl _))
 have HST := Lib.hid (fun t j e => AltI.start (ch := ch) (l := l) (i := i) (t := t) (j := j) (e := e))
 obtain ⟨R, hR⟩ : ∃ R, choB ch l i = R := ⟨_, rfl⟩
 rw [hR] at HST ⊢
 have HMI := Lib.hid (fun t j (hm : catM ch l i = .ok (t, j)) => catM_le hc hm)
 clear h hcat hR hc
 obtain ⟨i0, hi, hz0, hz1, hz2⟩ := info_parts infoN
 go_enter Tryd.func26, Tryd.ntmps26
 go_wp2_with fail
 refine (H0.out _ HS.out.ps).mono ?_
 rintro e9 w0 ⟨x, t0, j0, e0, rfl, hT, hq, hf⟩
 have HS0 := Lib.hid (HS.out.go hq)
 have HT0 := Lib.hid (hT.up HS.out.sz)
 have HI0 := Lib.hid (HST.out t0 j0 e0 hf)
 have HIJ : Hid (e0 = 0 → i ≤ j0) := Lib.hid (fun he => by
  rcases fits_cases hf with ⟨hm, _⟩ | ⟨_, hne⟩
  ·exact HMI.out _ _ hm
  ·exact absurd he hne)
 obtain ⟨op, rs, nm, kk, mn, mx, ra2, rc2, a, cc, ht, rfl, _⟩ := hT.open
 have HL0 := Lib.hid (ZL.lit HS0.out [.int .i64 op, .slice ra2 rs.length rc2, .string ⟨nm.toArray⟩, .slice a kk.length cc, .int .i64 mn, .int .i64 mx] rfl HT0.out)
 clear hq hT ht HS HS0 HT0 hf
 go_wp2_with fail
 go_loopw [3] (fun v wr => ∃ (k e : Nat) (kids : List NT), Hid (AltI ch l R k e kids) ∧ Hid (e = 0 → i ≤ k) ∧ kids.length ≤ 1002 ∧ Hid (e = 0 → kids.length ≤ k + 1) ∧ Hid (ZL b l k e w kids v wr)) (fun _ wr => leftAt b wr)
 case atStart => exact ⟨j0, e0, [t0], HI0, HIJ, by simp, Lib.hid (fun _ => by simp), HL0⟩
 case round =>
  obtain ⟨k, e, kids, HI, HIK, hlen, HLK, HL⟩ := hrel
  clear HL0 HI0 HIJ
  have hrow := HL.out.rows
  obtain ⟨ra, rc, rfl, _⟩ := hrow
  have hkl := HL.out.pr.ps.le
  by_cases hs : nxN l k e = 124
  ·obtain rfl : e = 0 := Decidable.byContradiction fun hne => by rw [nxN_err hne] at hs; cases hs
   have HSK := Lib.hid (show Asc.at_ l k = 124 from hs)
   have HR := Lib.hid (HCT.out (k + 1) (Nat.le_succ_of_le (HIK.out rfl)))
   clear hs
   go_wp2_with fail
   refine (HTY.out _ HSK.out _ HL.out.pr.ps).mono ?_
   rintro e9 w1 ⟨rfl, hq⟩
   have HS1 := Lib.hid (HL.out.go hq)
   clear hq
   go_wp2_with fail
   refine (HR.out _ HS1.out.pr.ps).mono ?_
   rintro e9 w2 ⟨x, t, j, e2, rfl, hT, hq, hf⟩
   have HS2 := Lib.hid (HS1.out.go hq)
   have HT2 := Lib.hid (HS1.out.new hT)
   have HI2 := Lib.hid (HI.out.next HGO.out hkl HSK.out hf)
   obtain ⟨op, rs, nm, kk, mn, mx, ra2, rc2, a, cc, ht, rfl, _⟩ := hT.open
   clear hq hT ht HS1 hf
   obtain ⟨cs, hown, hpush⟩ := HS2.out.row.cells
   have HPU := Lib.hid hpush
   have HSZ := Lib.hid HS2.out.pr.sz
   have hlk := HLK.out (by first | rfl | trivial)
   clear hpush
   go_wp2_with (at_builtin; refine wpList_append_lies _ rfl _ _ 27 rfl (w.heap.size + 1) 29 i0 (.agg #[.int .i64 0, .slice none 0 0, .string ⟨#[]⟩, .slice none 0 0, .int .i64 0, .int .i64 0]) 6 88 Tryd.underlying27 hi hz0 hz1 hz2 rfl (by decide) _ kids.length cs rfl (hown.alloc _) ⟨w2.heap.size, 0, none⟩ 1 1 [.int .i64 op, .slice ra2 rs.length rc2, .string ⟨nm.toArray⟩, .slice a kk.length cc, .int .i64 mn, .int .i64 mx] rfl rfl (World.news_of_block (heap_alloc_new w2 _)) (node_one _ _ _ _ _ _ _ _ _ _) (by omega) (by unfold maxLen; omega) (by omega) (Nat.le_trans HSZ.out (by simp)) _ rfl ?_; intro g6 cap6 w6 hown6 hgr6 hat6 hlt6; have HS6 := Lib.hid (HS2.out.push cs hown HPU.out hgr6 hat6 rfl _ rfl HT2.out (by omega) hown6); clear hown6 hgr6 hat6 hlt6 hown)
   refine ⟨⟨j, e2, kids ++ [t], Lib.hid HI2.out.1, Lib.hid (fun he => ?_), by simp; omega, Lib.hid (fun he => ?_), HS6⟩, ?_⟩
   ·have := HI2.out.2 he
    have := HIK.out (by first | rfl | trivial)
    omega
   ·have := HI2.out.2 he
    simp
    omega
   ·rw [HS6.out.pr.ps.left, HL.out.pr.ps.left, if_pos rfl]
    by_cases he : e2 = 0
    ·have := HI2.out.2 he
     rw [if_pos he]
     omega
    ·rw [if_neg he]
     omega
  ·have HF := Lib.hid (HI.out.stop hkl hs)
   have HN := Lib.hid (HTN.out k e hs)
   clear hs
   go_wp2_with fail
   refine (HN.out _ HL.out.pr.ps).mono ?_
   rintro e9 w1 ⟨rfl, hq⟩
   have HS1 := Lib.hid (HL.out.go hq)
   clear hq HL
   go_wp2_with fail
   refine (join_any 3 kids _ _ (w.heap.size + 1) HS1.out.rows).mono ?_
   rintro e9 w3 ⟨x, rfl, hT, hb⟩
   have HS3 := Lib.hid (HS1.out.pr.on hb)
   have HT3 := Lib.hid hT
   obtain ⟨op, rs, nm, kk, mn, mx, ra2, rc2, a, cc, ht, rfl, _⟩ := hT.open
   clear hT hb ht HS1
   obtain ⟨k0, k1, k2, k3, k4, k5, f0, f1, f2, f3, f4, f5⟩ := bk6 HS3.out.bk
   go_wp2_with fail
   rw [nest6 w3]
   exact node_retz (P := 2) rfl HS3.out _ _ rfl (by rfl) HT3.out HF.out
theorem choice_full (b : Nat) (l : List UInt8) (d : Nat) : ∀ i, l.length < i + d → RdZ 26 b l i (choM l d i) := by
 induction d with
 | zero =>
  intro i hi W hW
  have := hW.le
  omega
 | succ d ih =>
  intro i hi
  have hgo := choM_goes l d
  refine cho_any b l (choM l d) hgo i fun k hk => cat_any b l (choM l d) hgo k fun k2 hk2 => ?_
  refine rep_any b l k2 _ (atom_any b l (choM l d) k2 fun _ => grp_any b l (choM l d) (k2 + 1) (ih _ ?_)) _ (fun j e _ hm => ?_) (fun t j hm => ?_)
  ·have := grpI_le l (k2 + 1)
   omega
  ·rw [repM_eq, hm]
  ·rw [repM_eq, hm]
end Go.Proofs.YtihdnlpelfgklaaDoor
namespace Go.Proofs.YtihdnlpelfgklaaDoor
open Go.RowKit
noncomputable def parM (l : List UInt8) : Option NT × Nat × Nat :=
 if 400 < l.length then (none, 0, 3)
 else match choM l (l.length + 1) 0 with
  | .error (j, e) => (none, j, e)
  | .ok (t, j) => if j < l.length then (none, j, 1) else if ckE t = 0 then (some t, l.length, 0) else (none, l.length, ckE t)
def zeroT : NT := .node 0 [] [] [] 0 0
def ParZ (l : List UInt8) (w : World) (en : Ending) (w' : World) : Prop := ∃ v t, en = .returned (.tuple #[v, .int .i64 ((parM l).2.1 : Int), .int .i64 ((parM l).2.2 : Int)]) ∧ NG (fun k => w.heap.size ≤ k) w' t v ∧ Below w.heap.size w w' ∧ ((parM l).2.2 = 0 → (parM l).1 = some t)
def ParY (l : List UInt8) (w : World) (en : Ending) (w' : World) : Prop := ∃ v t, en = .returned (.tuple #[v, .int .i64 ((parM l).2.1 : Int), .int .i64 ((parM l).2.2 : Int)]) ∧ NG (fun k => w.heap.size ≤ k) w' t v ∧ Below w.heap.size w w' ∧ ((parM l).2.2 = 0 → (parM l).1 = some t) ∧ ((parM l).2.2 ≠ 0 → t = zeroT)
theorem ParY.z {l : List UInt8} {w : World} {en : Ending} {w' : World} (h : ParY l w en w') : ParZ l w en w' := by
 obtain ⟨v, t, h1, h2, h3, h4, _⟩ := h
 exact ⟨v, t, h1, h2, h3, h4⟩
theorem par_ret {fn : Func} {P t u : Tmp} (hfn : fn.results = #[.cell P 29, .tmp t, .tmp u]) {w W : World} {E : Nat → Value} (hS : BK w.heap.size 6 E W) {tmps : Array Value} (hp : tmps.getD P undef = .pointer (some ⟨w.heap.size, 0, none⟩)) {v0 v1 v2 v3 v4 v5 : Value} {l : List UInt8} {T : NT}
  (h1 : tmps.getD t undef = .int .i64 ((parM l).2.1 : Int)) (h2 : tmps.getD u undef = .int .i64 ((parM l).2.2 : Int)) (hT : NG (fun k => w.heap.size < k) W T (.agg #[v0, v1, v2, v3, v4, v5])) (hb : Below w.heap.size w W) (hr : ((parM l).2.2 = 0 → (parM l).1 = some T) ∧ ((parM l).2.2 ≠ 0 → T = zeroT)) :
  bodyPost Tryd.prog fn (ParY l w) Exit.ret { tmps := tmps, defers := [] } (setL W w.heap.size [v0, v1, v2, v3, v4, v5] 0) := by
 have hbl := setL_below (B := w.heap.size) (b := w.heap.size) (Nat.le_refl _) [v0, v1, v2, v3, v4, v5] W 0
 exact item_ret3 hfn hS rfl hp ⟨_, T, by rw [h1, h2], NG.go ⟨hbl.size, fun j hj _ => ⟨Nat.le_of_lt hj, setL_heap _ (Nat.ne_of_gt hj) _ _⟩⟩ _ _ hT, hb.trans hbl, hr⟩
theorem zero_ng {B : Nat} {W : World} : NG (fun k => B < k) W zeroT (.agg #[.int .i64 0, .slice none 0 0, .string ⟨#[]⟩, .slice none 0 0, .int .i64 0, .int .i64 0]) := NG.node (rs := []) (kids := []) RW.nil RW.nil 0 [] 0 0 (by simp)
theorem zero_up {B : Nat} {W : World} : NG (fun k => B ≤ k) W zeroT (.agg #[.int .i64 0, .slice none 0 0, .string ⟨#[]⟩, .slice none 0 0, .int .i64 0, .int .i64 0]) := NG.node (rs := []) (kids := []) RW.nil RW.nil 0 [] 0 0 (by simp)
theorem drew_setL (b : Nat) : ∀ (l : List Value) (i : Nat) (W : World), (setL W b l i).drew = setL W.drew b l i
 | [], _, _ => rfl
 | v :: l, i, W => drew_setL b l (i + 1) (W.setCell ⟨b, i, none⟩ v)
set_option maxHeartbeats 4000000 in
set_option maxRecDepth 1000000 in
theorem parse_long (l : List UInt8) (hl : 400 < l.length) (w : World) : Calls Tryd.prog 17 #[.string ⟨l.toArray⟩] w (ParY l w) := by
 have hM : parM l = (none, 0, 3) := if_pos hl
 have HM := Lib.hid hM
 have z0 : decide ((400 : Int) < (l.length : Int)) = true := decide_eq_true (by omega)
 have y0 : decide (400 < l.length) = true := decide_eq_true hl
 have HK0 := Lib.hid (nE_new w 0 none 0 0 [] none 0 0 0 0)
 have HB0 := Lib.hid (al_below w (.cells #[.int .i64 0, .slice none 0 0, .string ⟨#[]⟩, .slice none 0 0, .int .i64 0, .int .i64 0] 29))
 clear hM hl
 go_enter Tryd.func17, Tryd.ntmps17
 go_wp2_with fail
 refine bodyPost_ret (results_item3 (ty := 29) (p := 2) (t := 3) (u := 4) rfl _ _ w.heap.size [.int .i64 0, .slice none 0 0, .string ⟨#[]⟩, .slice none 0 0, .int .i64 0, .int .i64 0] _ (by rfl) ?_ Tryd.underlying29 rfl (by kernel_rfl)) rfl ⟨_, zeroT, ?_, zero_up, HB0.out, fun h => (by rw [HM.out] at h; cases h), fun _ => rfl⟩
 ·intro j v hj
  match j, hj with
  | 0, hj => simp at hj; subst hj; exact HK0.out.ev 0 (by omega)
  | 1, hj => simp at hj; subst hj; exact HK0.out.ev 1 (by omega)
  | 2, hj => simp at hj; subst hj; exact HK0.out.ev 2 (by omega)
  | 3, hj => simp at hj; subst hj; exact HK0.out.ev 3 (by omega)
  | 4, hj => simp at hj; subst hj; exact HK0.out.ev 4 (by omega)
  | 5, hj => simp at hj; subst hj; exact HK0.out.ev 5 (by omega)
  | j + 6, hj => simp at hj
 ·rw [HM.out]
  rfl
set_option maxHeartbeats 8000000 in
set_option maxRecDepth 1000000 in
theorem parse_short (l : List UInt8) (hl : l.length ≤ 400) (w : World) (hk : Kinds w) : Calls Tryd.prog 17 #[.string ⟨l.toArray⟩] w (ParY l w) := by
 have hM : parM l = _ := if_neg (by omega)
 have HM := Lib.hid hM
 have hkb : 0 < w.heap.size + 1 := Nat.lt_succ_of_lt hk.1
 have HC := Lib.hid (choice_full (w.heap.size + 1) l (l.length + 1) 0 (by omega))
 obtain ⟨R, hR⟩ : ∃ R, choM l (l.length + 1) 0 = R := ⟨_, rfl⟩
 rw [hR] at HC HM
 have HF := Lib.hid fun (k e : Nat) W (hW : ZS (w.heap.size + 1) l k e W) => zfail (w.heap.size + 1) l k e 1 W hW
 have z0 : decide ((400 : Int) < (l.length : Int)) = false := decide_eq_false (by omega)
 have y0 : decide (400 < l.length) = false := decide_eq_false (by omega)
 have hb1 := al_below w (.cells #[.int .i64 0, .slice none 0 0, .string ⟨#[]⟩, .slice none 0 0, .int .i64 0, .int .i64 0] 29)
 have hb2 := al_below (w.alloc (.cells #[.int .i64 0, .slice none 0 0, .string ⟨#[]⟩, .slice none 0 0, .int .i64 0, .int .i64 0] 29)) (.cells #[.string ⟨l.toArray⟩, .int .i64 0, .int .i64 0] 65)
 have HB0 := Lib.hid (hb1.trans (hb2.mono hb1.size))
 have HS0 : Hid (ZS (w.heap.size + 1) l 0 0 ((w.alloc (.cells #[.int .i64 0, .slice none 0 0, .string ⟨#[]⟩, .slice none 0 0, .int .i64 0, .int .i64 0] 29)).alloc (.cells #[.string ⟨l.toArray⟩, .int .i64 0, .int .i64 0] 65))) := Lib.hid ⟨by
   have := BK.new (w.alloc (.cells #[.int .i64 0, .slice none 0 0, .string ⟨#[]⟩, .slice none 0 0, .int .i64 0, .int .i64 0] 29)) #[.string ⟨l.toArray⟩, .int .i64 0, .int .i64 0] 65 (psE l 0 0) 3 (fun i hi => by
    match i, hi with
    | 0, _ => rfl
    | 1, _ => rfl
    | 2, _ => rfl)
   unfold PSt
   simpa using this, Nat.zero_le _, by omega, hk.below (HB0.out), hkb⟩
 have HK0 := Lib.hid ((nE_new w 0 none 0 0 [] none 0 0 0 0).on hb2 (by simp))
 clear hk hb1 hb2 hkb hM hR
 go_enter Tryd.func17, Tryd.ntmps17
 go_wp2_with fail
 refine (HC.out _ HS0.out).mono ?_
 rintro e9 w1 ⟨v, t, j, e, rfl, hT, hq, hf⟩
 have HB1 := Lib.hid (hq.ap.below HB0.out (Nat.le_succ _))
 have HK1 := Lib.hid (HK0.out.go hq.ap (Nat.ne_of_lt (Nat.lt_succ_self _)))
 have HS1 := Lib.hid hq.ps
 have HT1 := Lib.hid (hT.up (B := w.heap.size) (by simp; omega))
 have HFT := Lib.hid (fits_cases hf)
 obtain ⟨op, rs, nm, kids, mn, mx, ra, rc, a, cc, ht, rfl, _⟩ := hT.open
 have HLT := Lib.hid HK1.out.lt
 clear hT hq ht HB0 HK0 HS0 hf
 have hal := al_below w1 (.cells #[.int .i64 op, .slice ra rs.length rc, .string ⟨nm.toArray⟩, .slice a kids.length cc, .int .i64 mn, .int .i64 mx] 29)
 have HS2 := Lib.hid (HS1.out.on hal HS1.out.st.lt)
 have HT2 := Lib.hid (HT1.out.low hal)
 have HK2 := Lib.hid (HK1.out.on hal HK1.out.lt)
 have HQ2 := Lib.hid (nE_new w1 op ra rs.length rc nm a kids.length cc mn mx)
 have HB2 := Lib.hid (HB1.out.trans (hal.mono HB1.out.size))
 have c1 := HS2.out.c1
 have c2 := HS2.out.c2
 have hjl := HS2.out.le
 clear hal HB1 HK1 HS1 HT1
 by_cases hj : j < l.length
 ·have z1 : decide ((j : Int) < (l.length : Int)) = true := decide_eq_true (by omega)
  have y1 : decide (j < l.length) = true := decide_eq_true hj
  go_wp2_with fail
  clear c1 c2
  refine (HF.out _ _ _ HS2.out).mono ?_
  rintro e9 w2 ⟨rfl, hq⟩
  obtain ⟨E, hE⟩ : ∃ E, (if e = 0 then 1 else e) = E := ⟨_, rfl⟩
  rw [hE] at hq
  have hE0 : E ≠ 0 := by rw [← hE]; split <;> omega
  have HME : Hid (parM l = (none, j, E)) := Lib.hid (by
   rw [HM.out]
   rcases HFT.out with ⟨hm, he⟩ | ⟨hm, he⟩
   ·rw [hm]
    rw [if_pos he] at hE
    simp only [if_pos hj, hE]
   ·rw [hm]
    rw [if_neg he] at hE
    rw [hE])
  have HS3 := Lib.hid hq.ps
  have HK3 := Lib.hid (HK2.out.go hq.ap (Nat.ne_of_lt (Nat.lt_succ_self _)))
  have HB3 := Lib.hid (hq.ap.below HB2.out (Nat.le_succ _))
  clear hq hE
  have z2 : ((E : Int) == 0) = false := by rw [beq_eq_false_iff_ne]; omega
  have z3 : ((E : Int) != 0) = true := by simp; omega
  have c1 := HS3.out.c1
  have c2 := HS3.out.c2
  obtain ⟨k0, k1, k2, k3, k4, k5, f0, f1, f2, f3, f4, f5⟩ := bk6 HK3.out
  go_wp2_with fail
  go_region
  go_wp2_with fail
  rw [nest6, drew_setL]
  exact par_ret (P := 2) rfl HK3.out.dr (by rfl) (by rw [HME.out]; rfl) (by rw [HME.out]; rfl) zero_ng HB3.out.drew ⟨fun h => by rw [HME.out] at h; exact absurd h hE0, fun _ => rfl⟩
 ·have z1 : decide ((j : Int) < (l.length : Int)) = false := decide_eq_false (by omega)
  have y1 : decide (j < l.length) = false := decide_eq_false hj
  have HJL := Lib.hid (show j = l.length by omega)
  by_cases he : e = 0
  ·subst he
   have HR := Lib.hid (show R = .ok (t, j) by rcases HFT.out with ⟨hm, _⟩ | ⟨_, he⟩; (exact hm); (exact absurd rfl he))
   have c2 : (w1.alloc (.cells #[.int .i64 op, .slice ra rs.length rc, .string ⟨nm.toArray⟩, .slice a kids.length cc, .int .i64 mn, .int .i64 mx] 29)).cell? ⟨w.heap.size + 1, 2, none⟩ = some (.int .i64 0) := HS2.out.c2
   obtain ⟨C, hC⟩ : ∃ C, ckE t = C := ⟨_, rfl⟩
   have HMC : Hid (parM l = if C = 0 then (some t, l.length, 0) else (none, l.length, C)) := Lib.hid (by
    rw [HM.out, HR.out]
    simp only [if_neg hj, hC])
   have HCK := Lib.hid fun W (hW : Kinds W) v (hv : NAt W t v) => check_any t v W hv hW
   rw [hC] at HCK
   clear hC HM HF
   go_wp2_with fail
   refine (HCK.out _ HS2.out.kd _ HT2.out.at).mono ?_
   rintro e9 w2 ⟨rfl, hb⟩
   have HT3 := Lib.hid (HT2.out.low hb)
   have HK3 := Lib.hid (HK2.out.on hb HK2.out.lt)
   have HQ3 := Lib.hid (HQ2.out.on hb HQ2.out.lt)
   have HB3 := Lib.hid (HB2.out.trans (hb.mono HB2.out.size))
   clear hb HT2 HK2 HS2 HB2 c1 c2
   obtain ⟨q0, q1, q2, q3, q4, q5⟩ := bkn HQ3.out
   obtain ⟨q, hq⟩ : ∃ q, w1.heap.size = q := ⟨_, rfl⟩
   have hqw : q ≠ w.heap.size := by have := HLT.out; omega
   rw [hq] at q0 q1 q2 q3 q4 q5 ⊢
   obtain ⟨k0, k1, k2, k3, k4, k5, f0, f1, f2, f3, f4, f5⟩ := bk6 HK3.out
   by_cases hC0 : C = 0
   ·subst hC0
    go_wp2_with fail
    rw [nest6 w2]
    exact par_ret (P := 2) rfl HK3.out (by rfl) (by rw [HMC.out]; rfl) (by rw [HMC.out]; rfl) HT3.out HB3.out ⟨fun _ => by rw [HMC.out]; rfl, fun h => absurd (by rw [HMC.out]; rfl) h⟩
   ·have z2 : ((C : Int) == 0) = false := by rw [beq_eq_false_iff_ne]; omega
    have z3 : ((C : Int) != 0) = true := by simp; omega
    have HCN := Lib.hid hC0
    clear hC0
    go_wp2_with fail
    rw [nest6 w2]
    exact par_ret (P := 2) rfl HK3.out (by rfl) (by rw [HMC.out, if_neg HCN.out]; rfl) (by rw [HMC.out, if_neg HCN.out]; rfl) zero_ng HB3.out ⟨fun h => by rw [HMC.out, if_neg HCN.out] at h; exact absurd h HCN.out, fun _ => rfl⟩
  ·have hE0 := he
   have HME : Hid (parM l = (none, j, e)) := Lib.hid (by
    rw [HM.out]
    rcases HFT.out with ⟨_, h⟩ | ⟨hm, _⟩
    ·exact absurd h he
    ·rw [hm])
   have z2 : ((e : Int) == 0) = false := by rw [beq_eq_false_iff_ne]; omega
   have z3 : ((e : Int) != 0) = true := by simp; omega
   have c1 := HS2.out.c1
   have c2 := HS2.out.c2
   obtain ⟨k0, k1, k2, k3, k4, k5, f0, f1, f2, f3, f4, f5⟩ := bk6 HK2.out
   go_wp2_with fail
   go_region
   go_wp2_with fail
   rw [nest6, drew_setL]
   exact par_ret (P := 2) rfl HK2.out.dr (by rfl) (by rw [HME.out]; rfl) (by rw [HME.out]; rfl) zero_ng HB2.out.drew ⟨fun h => by rw [HME.out] at h; exact absurd h hE0, fun _ => rfl⟩
theorem parse_full (l : List UInt8) (w : World) (hk : Kinds w) : Calls Tryd.prog 17 #[.string ⟨l.toArray⟩] w (ParY l w) := by
 rcases Nat.lt_or_ge 400 l.length with h | h
 ·exact parse_long l h w
 ·exact parse_short l h w hk
theorem parse_any (l : List UInt8) (w : World) (hk : Kinds w) : Calls Tryd.prog 17 #[.string ⟨l.toArray⟩] w (ParZ l w) := (parse_full l w hk).mono fun _ _ h => h.z
end Go.Proofs.YtihdnlpelfgklaaDoor
namespace Go.Proofs.YtihdnlpelfgklaaDoor
open Go.RowKit
def aw3S : List UInt8 := [40, 97, 124, 97, 98, 41, 40, 99, 124, 98, 99, 100, 41]
def by1 (c : UInt8) : NT := .node 1 [(c, c)] [] [] 0 0
def aw3T : NT := .node 2 [] [] [.node 3 [] [] [by1 97, .node 2 [] [] [by1 97, by1 98] 0 0] 0 0, .node 3 [] [] [by1 99, .node 2 [] [] [by1 98, by1 99, by1 100] 0 0] 0 0] 0 0
theorem aw3_cho : choM aw3S 14 0 = .ok (.node 2 [] [] [.node 3 [] [] [clsT (spanF 97 98), .node 2 [] [] [clsT (spanF 97 98), clsT (spanF 98 99)] 0 0] 0 0, .node 3 [] [] [clsT (spanF 99 100), .node 2 [] [] [clsT (spanF 98 99), clsT (spanF 99 100), clsT (spanF 100 101)] 0 0] 0 0] 0 0, 13) := by rfl
theorem cls_by1 (c : UInt8) : clsT (spanF c.toNat (c.toNat + 1)) = by1 c := by
 unfold clsT by1
 rw [rngs_c]
theorem srt_by1 (x : UInt8) : srtB [(x, x)] = true := srtB_yes ⟨by simp, fun i hi => by
 obtain rfl : i = 0 := by simpa using hi
 unfold okR
 simp⟩
theorem aw3_ck : ckE aw3T = 0 := by
 have hck : ckN aw3T 0 0 [] = (12, [], 0) := by
  unfold aw3T by1
  simp [ckN, ckNs, shE, shpB, badR, srt_by1]
 exact (ckE_of hck).2.2.2 rfl (by
  rintro ⟨i, hi, hm⟩
  simp at hi) (by simp)
theorem aw3_par : parM aw3S = (some aw3T, 13, 0) := by
 unfold parM
 rw [if_neg (by decide), show aw3S.length + 1 = 14 from rfl, aw3_cho]
 simp only
 rw [if_neg (by decide)]
 have e : (NT.node 2 [] [] [.node 3 [] [] [clsT (spanF 97 98), .node 2 [] [] [clsT (spanF 97 98), clsT (spanF 98 99)] 0 0] 0 0, .node 3 [] [] [clsT (spanF 99 100), .node 2 [] [] [clsT (spanF 98 99), clsT (spanF 99 100), clsT (spanF 100 101)] 0 0] 0 0] 0 0) = aw3T := by
  unfold aw3T
  rw [← cls_by1 97, ← cls_by1 98, ← cls_by1 99, ← cls_by1 100]
  rfl
 rw [e, if_pos aw3_ck]
 rfl
theorem aw3_cost : Mt.costN aw3T ≤ 4000 := by decide
theorem aw3_mat : Mt.matR [97, 98, 99, 100] aw3T true 0 = some (4, []) := by rfl
set_option maxHeartbeats 4000000 in
set_option maxRecDepth 1000000 in
theorem maw_any (w : World) (hk : Kinds w) : Calls Tryd.prog 6 #[] w fun e w' => e = .returned (.bool true) ∧ Below w.heap.size w w' := by
 have HP := Lib.hid (parse_any aw3S w hk)
 have HK := Lib.hid hk
 clear hk
 go_enter Tryd.func6, Tryd.ntmps6
 go_wp2_with fail
 refine HP.out.mono ?_
 rintro e w2 ⟨v, t, he, hT, hb, ht⟩
 rw [aw3_par] at he ht
 dsimp only at he
 obtain rfl : aw3T = t := Option.some.inj (ht rfl)
 subst he
 have hN := NG.at _ _ hT
 have HB := Lib.hid hb
 obtain ⟨op, rs, nm, kids, mn, mx, ra, rc, a, c, e0, rfl, _⟩ := hN.open
 obtain ⟨nk, hnk⟩ : ∃ n, kids.length = n := ⟨_, rfl⟩
 obtain ⟨nr, hnr⟩ : ∃ n, rs.length = n := ⟨_, rfl⟩
 rw [hnk, hnr] at hN ⊢
 obtain ⟨Wa, hWa⟩ : ∃ Wa, w2.alloc (.cells #[.int .i64 op, .slice ra nr rc, .string ⟨nm.toArray⟩, .slice a nk c, .int .i64 mn, .int .i64 mx] 29) = Wa := ⟨_, rfl⟩
 have hba : Below w2.heap.size w2 Wa := by rw [← hWa]; exact (Below.refl _ _).alloc (Nat.le_refl _) _
 have hbx : Wa.heap[w2.heap.size]? = some (.cells #[.int .i64 op, .slice ra nr rc, .string ⟨nm.toArray⟩, .slice a nk c, .int .i64 mn, .int .i64 mx] 29 (0, 0)) := by rw [← hWa]; exact Deep.blk_alloc_new w2 _
 obtain ⟨b0, b1, b2, b3, b4, b5⟩ := box6 hbx
 have HBA : Hid (Below w.heap.size w Wa) := Lib.hid (hb.trans (hba.mono hb.size))
 have HF := Lib.hid (Full_any aw3T _ [97, 98, 99, 100] Wa (NAt.later hba _ _ hN) (HK.out.below HBA.out) (by decide) aw3_ck aw3_cost)
 clear hT hb ht hN e0 hnk hnr hba hbx
 go_wp2_with fail
 refine HF.out.mono ?_
 rintro e w3 ⟨v, rfl, hv, hb3⟩
 rw [aw3_mat] at hv
 obtain ⟨a3, c3, rfl⟩ := hv
 have HB3 := Lib.hid (HBA.out.trans (hb3.mono HBA.out.size))
 obtain ⟨m, hm⟩ : ∃ m, Mt.cntM (Mt.nsN aw3T []).length [] = m := ⟨_, rfl⟩
 simp only [hm]
 clear hm hb3
 go_wp2_with fail
 go_ret
 exact ⟨rfl, HB3.out.alloc HB3.out.size _⟩
end Go.Proofs.YtihdnlpelfgklaaDoor
namespace Go.Proofs.YtihdnlpelfgklaaDoor
open Go.RowKit
set_option maxHeartbeats 16000000 in
set_option maxRecDepth 1000000 in
theorem choices_any (cs : List UInt8) (vc : Value) (s : List UInt8) (b : Nat) (hb8 : b < 256) (w : World) (hc : BS w vc cs) (hk : Kinds w) :
  Calls Tryd.prog 3 #[vc, .string ⟨s.toArray⟩, .int .u8 (b : Int)] w fun e w' => e = .returned (.bool true) ∧ Below w.heap.size w w' := by
 have HAW := Lib.hid (maw_any w hk)
 have HBS := Lib.hid hc
 have HK := Lib.hid hk
 clear hc hk
 go_enter Tryd.func3, Tryd.ntmps3
 go_wp2_with fail
 refine HAW.out.mono ?_
 rintro e w1 ⟨rfl, hb1⟩
 have HB1 := Lib.hid hb1
 have HNW := Lib.hid (new_any vc cs 200 w1 (HBS.out.below hb1) (by decide))
 clear hb1
 go_wp2_with fail
 refine HNW.out.mono ?_
 rintro e w2 ⟨rfl, hc2, hb2⟩
 have HB2 : Hid (Below w.heap.size w w2) := Lib.hid (HB1.out.trans (hb2.mono HB1.out.size))
 have hg2 : w1.heap.size < w2.heap.size := hc2.1
 have hwg : w.heap.size ≤ w1.heap.size := HB1.out.size
 have HNA := Lib.hid (node_any 2 (by decide) w1.heap.size w2 hc2)
 clear hb2 hc2
 go_wp2_with fail
 refine HNA.out.mono ?_
 rintro e w3 ⟨va, ta, rfl, hTa, hGa, _⟩
 have HTa := Lib.hid hTa
 have HGa := Lib.hid hGa
 have HNB := Lib.hid (node_any 2 (by decide) w1.heap.size w3 hGa.codes)
 clear hTa hGa
 go_wp2_with fail
 refine HNB.out.mono ?_
 rintro e w4 ⟨vb, tb, rfl, hTb, hGb, _⟩
 have HTb := Lib.hid hTb
 have HGb := Lib.hid hGb
 have hAa := NG.at _ _ HTa.out
 have hBb := NG.at _ _ hTb
 obtain ⟨o1, r1, nm1, ks1, mn1, mx1, ra1, rc1, a1, c1, e1, rfl, _⟩ := hAa.open
 obtain ⟨o2, r2, nm2, ks2, mn2, mx2, ra2, rc2, a2, c2, e2, rfl, _⟩ := hBb.open
 clear e1 e2 hTb hGb hAa hBb
 obtain ⟨nk1, hnk1⟩ : ∃ n, ks1.length = n := ⟨_, rfl⟩
 obtain ⟨nr1, hnr1⟩ : ∃ n, r1.length = n := ⟨_, rfl⟩
 obtain ⟨nk2, hnk2⟩ : ∃ n, ks2.length = n := ⟨_, rfl⟩
 obtain ⟨nr2, hnr2⟩ : ∃ n, r2.length = n := ⟨_, rfl⟩
 rw [hnk1, hnr1] at HTa ⊢
 rw [hnk2, hnr2] at HTb ⊢
 clear hnk1 hnr1 hnk2 hnr2
 obtain ⟨W5, hW5⟩ : ∃ W5, w4.alloc (.cells #[.int .i64 o1, .slice ra1 nr1 rc1, .string ⟨nm1.toArray⟩, .slice a1 nk1 c1, .int .i64 mn1, .int .i64 mx1] 29) = W5 := ⟨_, rfl⟩
 obtain ⟨W6, hW6⟩ : ∃ W6, W5.alloc (.cells #[.int .i64 o2, .slice ra2 nr2 rc2, .string ⟨nm2.toArray⟩, .slice a2 nk2 c2, .int .i64 mn2, .int .i64 mx2] 29) = W6 := ⟨_, rfl⟩
 obtain ⟨W7, hW7⟩ : ∃ W7, W6.alloc (.cells #[.int .i64 o1, .slice ra1 nr1 rc1, .string ⟨nm1.toArray⟩, .slice a1 nk1 c1, .int .i64 mn1, .int .i64 mx1, .int .i64 o2, .slice ra2 nr2 rc2, .string ⟨nm2.toArray⟩, .slice a2 nk2 c2, .int .i64 mn2, .int .i64 mx2] 29) = W7 := ⟨_, rfl⟩
 obtain ⟨W8, hW8⟩ : ∃ W8, W7.alloc (.cells #[.int .i64 3, .slice none 0 0, .string ⟨#[]⟩, .slice (some ⟨w4.heap.size + 2, 0, none⟩) 2 2, .int .i64 0, .int .i64 0] 29) = W8 := ⟨_, rfl⟩
 have s5 : W5.heap.size = w4.heap.size + 1 := by rw [← hW5]; exact Deep.nblk_alloc _ _
 have s6 : W6.heap.size = w4.heap.size + 2 := by rw [← hW6, Deep.nblk_alloc, s5]
 have s7 : W7.heap.size = w4.heap.size + 3 := by rw [← hW7, Deep.nblk_alloc, s6]
 have s8 : W8.heap.size = w4.heap.size + 4 := by rw [← hW8, Deep.nblk_alloc, s7]
 have x5 : W5.heap[w4.heap.size]? = some (.cells #[.int .i64 o1, .slice ra1 nr1 rc1, .string ⟨nm1.toArray⟩, .slice a1 nk1 c1, .int .i64 mn1, .int .i64 mx1] 29 (0, 0)) := by rw [← hW5]; exact Deep.blk_alloc_new _ _
 have x6 : W6.heap[w4.heap.size + 1]? = some (.cells #[.int .i64 o2, .slice ra2 nr2 rc2, .string ⟨nm2.toArray⟩, .slice a2 nk2 c2, .int .i64 mn2, .int .i64 mx2] 29 (0, 0)) := by rw [← hW6, ← s5]; exact Deep.blk_alloc_new _ _
 have x7 : W7.heap[w4.heap.size + 2]? = some (.cells #[.int .i64 o1, .slice ra1 nr1 rc1, .string ⟨nm1.toArray⟩, .slice a1 nk1 c1, .int .i64 mn1, .int .i64 mx1, .int .i64 o2, .slice ra2 nr2 rc2, .string ⟨nm2.toArray⟩, .slice a2 nk2 c2, .int .i64 mn2, .int .i64 mx2] 29 (0, 0)) := by rw [← hW7, ← s6]; exact Deep.blk_alloc_new _ _
 have x8 : W8.heap[w4.heap.size + 3]? = some (.cells #[.int .i64 3, .slice none 0 0, .string ⟨#[]⟩, .slice (some ⟨w4.heap.size + 2, 0, none⟩) 2 2, .int .i64 0, .int .i64 0] 29 (0, 0)) := by rw [← hW8, ← s7]; exact Deep.blk_alloc_new _ _
 have b6 : ∀ k, k < w4.heap.size + 1 → W6.heap[k]? = W5.heap[k]? := fun k hk => by rw [← hW6]; exact Deep.blk_alloc_lt _ _ _ (by omega)
 have b7 : ∀ k, k < w4.heap.size + 2 → W7.heap[k]? = W6.heap[k]? := fun k hk => by rw [← hW7]; exact Deep.blk_alloc_lt _ _ _ (by omega)
 have b8 : ∀ k, k < w4.heap.size + 3 → W8.heap[k]? = W7.heap[k]? := fun k hk => by rw [← hW8]; exact Deep.blk_alloc_lt _ _ _ (by omega)
 have hbw8 : Below w4.heap.size w4 W8 := by
  rw [← hW8, ← hW7, ← hW6, ← hW5]
  have q1 := (Below.refl w4.heap.size w4).alloc (Nat.le_refl _) (.cells #[.int .i64 o1, .slice ra1 nr1 rc1, .string ⟨nm1.toArray⟩, .slice a1 nk1 c1, .int .i64 mn1, .int .i64 mx1] 29)
  have q2 := q1.alloc q1.size (.cells #[.int .i64 o2, .slice ra2 nr2 rc2, .string ⟨nm2.toArray⟩, .slice a2 nk2 c2, .int .i64 mn2, .int .i64 mx2] 29)
  have q3 := q2.alloc q2.size (.cells #[.int .i64 o1, .slice ra1 nr1 rc1, .string ⟨nm1.toArray⟩, .slice a1 nk1 c1, .int .i64 mn1, .int .i64 mx1, .int .i64 o2, .slice ra2 nr2 rc2, .string ⟨nm2.toArray⟩, .slice a2 nk2 c2, .int .i64 mn2, .int .i64 mx2] 29)
  exact q3.alloc q3.size _
 obtain ⟨i0, i1, i2, i3, i4, i5⟩ := box6 x5
 obtain ⟨j0, j1, j2, j3, j4, j5⟩ := box6 ((b6 _ (by omega)).trans x5)
 obtain ⟨l0, l1, l2, l3, l4, l5⟩ := box6 x6
 obtain ⟨m0, m1, m2, m3, m4, m5⟩ := box6 x8
 have f4 := frz0 x8 4
 have f5 := frz0 x8 5
 have t4 : W8.setCell ⟨w4.heap.size + 3, 4, none⟩ (.int .i64 0) = W8 := by rw [← s7, ← hW8]; simp [go_sem]
 have t5 : W8.setCell ⟨w4.heap.size + 3, 5, none⟩ (.int .i64 0) = W8 := by rw [← s7, ← hW8]; simp [go_sem]
 have X5 : Hid (W8.heap[w4.heap.size]? = some (.cells #[.int .i64 o1, .slice ra1 nr1 rc1, .string ⟨nm1.toArray⟩, .slice a1 nk1 c1, .int .i64 mn1, .int .i64 mx1] 29 (0, 0))) := Lib.hid ((b8 _ (by omega)).trans ((b7 _ (by omega)).trans ((b6 _ (by omega)).trans x5)))
 have X6 : Hid (W8.heap[w4.heap.size + 1]? = some (.cells #[.int .i64 o2, .slice ra2 nr2 rc2, .string ⟨nm2.toArray⟩, .slice a2 nk2 c2, .int .i64 mn2, .int .i64 mx2] 29 (0, 0))) := Lib.hid ((b8 _ (by omega)).trans ((b7 _ (by omega)).trans x6))
 have X7 : Hid (W8.heap[w4.heap.size + 2]? = some (.cells #[.int .i64 o1, .slice ra1 nr1 rc1, .string ⟨nm1.toArray⟩, .slice a1 nk1 c1, .int .i64 mn1, .int .i64 mx1, .int .i64 o2, .slice ra2 nr2 rc2, .string ⟨nm2.toArray⟩, .slice a2 nk2 c2, .int .i64 mn2, .int .i64 mx2] 29 (0, 0))) := Lib.hid ((b8 _ (by omega)).trans x7)
 have X8 := Lib.hid x8
 have HW8 := Lib.hid hbw8
 have hle3 : w2.heap.size ≤ w3.heap.size := HGa.out.le
 have hle4 : w3.heap.size ≤ w4.heap.size := HGb.out.le
 have HTX := Lib.hid (ltext_any s w1.heap.size W8 (HGb.out.codes.below hbw8))
 clear x5 x6 x7 x8 b6 b7 b8 hbw8
 go_wp2_with fail
 refine HTX.out.mono ?_
 rintro e w9 ⟨tx, htx, rfl, hc9, ha9⟩
 have HA9 := Lib.hid ha9
 have hlt8 : w4.heap.size + 4 = W8.heap.size := s8.symm
 have y5 := (ha9.block (k := w4.heap.size) (by omega) (by omega)).trans X5.out
 have y6 := (ha9.block (k := w4.heap.size + 1) (by omega) (by omega)).trans X6.out
 have y7 := (ha9.block (k := w4.heap.size + 2) (by omega) (by omega)).trans X7.out
 have y8 := (ha9.block (k := w4.heap.size + 3) (by omega) (by omega)).trans X8.out
 have st : ∀ k, w2.heap.size ≤ k → k < w4.heap.size → w9.heap[k]? = w4.heap[k]? := fun k hk hl => (ha9.block (by omega) (by omega)).trans (HW8.out.block k hl)
 have hA9 : NAt w9 ta (.agg #[.int .i64 o1, .slice ra1 nr1 rc1, .string ⟨nm1.toArray⟩, .slice a1 nk1 c1, .int .i64 mn1, .int .i64 mx1]) := NG.at _ _ (NG.go (F' := fun k => w2.heap.size ≤ k) ⟨by have := ha9.1.size; omega, fun k hk hl => ⟨hk, (st k hk (Nat.lt_of_lt_of_le hl hle4)).trans (HGb.out.ap.block (by omega) hl)⟩⟩ _ _ HTa.out)
 have hB9 : NAt w9 tb (.agg #[.int .i64 o2, .slice ra2 nr2 rc2, .string ⟨nm2.toArray⟩, .slice a2 nk2 c2, .int .i64 mn2, .int .i64 mx2]) := NG.at _ _ (NG.go (F' := fun k => w3.heap.size ≤ k) ⟨by have := ha9.1.size; omega, fun k hk hl => ⟨hk, st k (Nat.le_trans hle3 hk) hl⟩⟩ _ _ HTb.out)
 have hN9 := nat_two (op := 3) (vx := [.int .i64 o1, .slice ra1 nr1 rc1, .string ⟨nm1.toArray⟩, .slice a1 nk1 c1, .int .i64 mn1, .int .i64 mx1]) (vy := [.int .i64 o2, .slice ra2 nr2 rc2, .string ⟨nm2.toArray⟩, .slice a2 nk2 c2, .int .i64 mn2, .int .i64 mx2]) (h := w4.heap.size + 2) (c := 2) hA9 hB9 ⟨_, _, y7⟩
 have HA := Lib.hid hA9
 have HBn := Lib.hid hB9
 have HN := Lib.hid hN9
 have Y5 := Lib.hid y5
 have Y6 := Lib.hid y6
 have Y8 := Lib.hid y8
 have HB9 : Hid (Below w.heap.size w w9) := Lib.hid (HB2.out.trans ((((HGa.out.ap.1.mono hwg).trans (HGb.out.ap.1.mono hwg)).trans (HW8.out.mono (by omega))).trans (ha9.1.mono hwg)))
 obtain ⟨d0, d1, d2, d3, d4, d5⟩ := box6 y8
 obtain ⟨E, hE⟩ : ∃ E, ckE (.node 3 [] [] [ta, tb] 0 0) = E := ⟨_, rfl⟩
 have HRC := Lib.hid (rcheck_any _ _ w9 hN9)
 rw [hE] at HRC
 have HE := Lib.hid hE
 clear y5 y6 y7 y8 st hA9 hB9 hN9 hc9 ha9 hE X5 X6 X7 X8 i0 i1 i2 i3 i4 i5 j0 j1 j2 j3 j4 j5 l0 l1 l2 l3 l4 l5 hW5 hW6 hW7 hW8 s5 s6 s7 s8 m0 m1 m2 m3 m4 m5 f4 f5 t4 t5 HTX HNA HNB
 go_wp2_with fail
 refine HRC.out.mono ?_
 rintro e w10 ⟨rfl, hb10⟩
 have HB10 := Lib.hid hb10
 have HBW10 : Hid (Below w.heap.size w w10) := Lib.hid (HB9.out.trans (hb10.mono HB9.out.size))
 have y8 := (hb10.block _ (heap_lt Y8.out)).trans Y8.out
 have Y8' := Lib.hid y8
 obtain ⟨d0', d1', d2', d3', d4', d5'⟩ := box6 y8
 clear hb10 y8
 by_cases hE0 : E = 0
 ·subst hE0
  have HRT := rCost_any _ _ w10 (NAt.later HB10.out _ _ HN.out)
  rw [if_pos HE.out] at HRT
  obtain ⟨K, hK⟩ : ∃ K, Mt.costN (.node 3 [] [] [ta, tb] 0 0) = K := ⟨_, rfl⟩
  have hK4 := Mt.costN_le (.node 3 [] [] [ta, tb] 0 0)
  rw [hK] at HRT hK4
  have HRT := Lib.hid HRT
  have HKK := Lib.hid hK
  clear hK
  go_wp2_with fail
  refine HRT.out.mono ?_
  rintro e w11 ⟨rfl, hb11⟩
  have HB11 : Hid (Below w9.heap.size w9 w11) := Lib.hid (HB10.out.trans (hb11.mono HB10.out.size))
  have HBW11 : Hid (Below w.heap.size w w11) := Lib.hid (HB9.out.trans (HB11.out.mono HB9.out.size))
  clear hb11
  by_cases hK400 : K ≤ 400
  ·have z4 : decide ((400 : Int) < (K : Int)) = false := decide_eq_false (by omega)
   have hcost := Mt.choice_cost (rs := []) (nm := []) (x := ta) (y := tb) (mn := 0) (mx := 0) (by rw [HKK.out]; exact hK400)
   obtain ⟨cka, ckb, hfr⟩ := Mt.choice_ok HE.out
   have HCM := Lib.hid (Mt.choice_mat HE.out tx (b % (tx.length + 1)))
   obtain ⟨kk, hkk⟩ : ∃ k, b % (tx.length + 1) = k := ⟨_, rfl⟩
   rw [hkk] at HCM
   have hkl : kk ≤ tx.length := by rw [← hkk]; have := Nat.mod_lt b (show 0 < tx.length + 1 by omega); omega
   have hmod : Int.tmod (b : Int) ((tx.length : Int) + 1) = (kk : Int) := by
    rw [Int.tmod_eq_emod_of_nonneg (by omega), ← hkk]
    push_cast
    rfl
   have HCKA := Lib.hid cka
   have HCKB := Lib.hid ckb
   have HCOA := Lib.hid hcost.1
   have HCOB := Lib.hid hcost.2
   have y5 := (HB11.out.block _ (heap_lt Y5.out)).trans Y5.out
   obtain ⟨i0, i1, i2, i3, i4, i5⟩ := box6 y5
   have HMA := Lib.hid (Match_any ta _ tx kk w11 (NAt.later HB11.out _ _ HA.out) (HK.out.below HBW11.out) (by omega) HCKA.out HCOA.out hkl)
   have hnz : ((tx.length : Int) + 1 == 0) = false := by rw [beq_eq_false_iff_ne]; omega
   clear hcost cka ckb hfr y5 hkk
   go_wp2_with fail
   refine HMA.out.mono ?_
   rintro e w12 ⟨v12, rfl, hv12, hb12⟩
   obtain ⟨p1, q1, g1, m1, h1, ok1, rfl⟩ := hv12.two
   have HV1 := Lib.hid hv12
   have HB12 : Hid (Below w9.heap.size w9 w12) := Lib.hid (HB11.out.trans (hb12.mono HB11.out.size))
   obtain ⟨W13, hW13⟩ : ∃ W13, w12.alloc (.cells #[.int .i64 p1, .int .i64 q1, .slice g1 m1 h1] 39) = W13 := ⟨_, rfl⟩
   have x13 : W13.heap[w12.heap.size]? = some (.cells #[.int .i64 p1, .int .i64 q1, .slice g1 m1 h1] 39 (0, 0)) := by rw [← hW13]; exact Deep.blk_alloc_new _ _
   have HB13 : Hid (Below w9.heap.size w9 W13) := Lib.hid (by rw [← hW13]; exact HB12.out.alloc HB12.out.size _)
   have X13 := Lib.hid x13
   have y6 := (HB13.out.block _ (heap_lt Y6.out)).trans Y6.out
   obtain ⟨j0, j1, j2, j3, j4, j5⟩ := box6 y6
   have HMB := Lib.hid (Match_any tb _ tx kk W13 (NAt.later HB13.out _ _ HBn.out) (HK.out.below (HB9.out.trans (HB13.out.mono HB9.out.size))) (by omega) HCKB.out HCOB.out hkl)
   clear hv12 hb12 x13 y6
   go_wp2_with fail
   refine HMB.out.mono ?_
   rintro e w14 ⟨v14, rfl, hv14, hb14⟩
   obtain ⟨p2, q2, g2, m2, h2, ok2, rfl⟩ := hv14.two
   have HV2 := Lib.hid hv14
   obtain ⟨W15, hW15⟩ : ∃ W15, w14.alloc (.cells #[.int .i64 p2, .int .i64 q2, .slice g2 m2 h2] 39) = W15 := ⟨_, rfl⟩
   have x15 : W15.heap[w14.heap.size]? = some (.cells #[.int .i64 p2, .int .i64 q2, .slice g2 m2 h2] 39 (0, 0)) := by rw [← hW15]; exact Deep.blk_alloc_new _ _
   have hb15 : Below W13.heap.size W13 W15 := by rw [← hW15]; exact hb14.alloc hb14.size _
   have HB15 : Hid (Below w9.heap.size w9 W15) := Lib.hid (HB13.out.trans (hb15.mono HB13.out.size))
   have X15 := Lib.hid x15
   have X13b := Lib.hid ((hb15.block _ (heap_lt X13.out)).trans X13.out)
   have y8 := (HB15.out.block _ (heap_lt Y8.out)).trans Y8.out
   obtain ⟨l0, l1, l2, l3, l4, l5⟩ := box6 y8
   have HMN := Lib.hid (Match_any _ _ tx kk W15 (NAt.later HB15.out _ _ HN.out) (HK.out.below (HB9.out.trans (HB15.out.mono HB9.out.size))) (by omega) HE.out (by rw [HKK.out]; omega) hkl)
   have hsz14 := hb14.size
   clear hv14 hb14 x15 y8 hb15
   go_wp2_with fail
   refine HMN.out.mono ?_
   rintro e w16 ⟨v16, rfl, hv16, hb16⟩
   obtain ⟨p3, q3, g3, m3, h3, ok3, rfl⟩ := hv16.two
   have HV3 := Lib.hid hv16
   have hsz16 := hb16.size
   obtain ⟨W17, hW17⟩ : ∃ W17, w16.alloc (.cells #[.int .i64 p3, .int .i64 q3, .slice g3 m3 h3] 39) = W17 := ⟨_, rfl⟩
   have x17 : W17.heap[w16.heap.size]? = some (.cells #[.int .i64 p3, .int .i64 q3, .slice g3 m3 h3] 39 (0, 0)) := by rw [← hW17]; exact Deep.blk_alloc_new _ _
   have hb17 : Below W15.heap.size W15 W17 := by rw [← hW17]; exact hb16.alloc hb16.size _
   have HB17 : Hid (Below w.heap.size w W17) := Lib.hid ((HB9.out.trans (HB15.out.mono HB9.out.size)).trans (hb17.mono (Nat.le_trans HB9.out.size HB15.out.size)))
   have x13 := (hb17.block _ (heap_lt X13b.out)).trans X13b.out
   have x15 := (hb17.block _ (heap_lt X15.out)).trans X15.out
   have k0 : W17.cell? ⟨w16.heap.size, 0, none⟩ = some (.int .i64 p3) := by rw [Lib.cell_of_heap x17]; rfl
   have k1 : W17.cell? ⟨w16.heap.size, 1, none⟩ = some (.int .i64 q3) := by rw [Lib.cell_of_heap x17]; rfl
   have k2 : W17.cell? ⟨w16.heap.size, 2, none⟩ = some (.slice g3 m3 h3) := by rw [Lib.cell_of_heap x17]; rfl
   have n0 : W17.cell? ⟨w14.heap.size, 0, none⟩ = some (.int .i64 p2) := by rw [Lib.cell_of_heap x15]; rfl
   have n1 : W17.cell? ⟨w14.heap.size, 1, none⟩ = some (.int .i64 q2) := by rw [Lib.cell_of_heap x15]; rfl
   have n2 : W17.cell? ⟨w14.heap.size, 2, none⟩ = some (.slice g2 m2 h2) := by rw [Lib.cell_of_heap x15]; rfl
   have u0 : W17.cell? ⟨w12.heap.size, 0, none⟩ = some (.int .i64 p1) := by rw [Lib.cell_of_heap x13]; rfl
   have u1 : W17.cell? ⟨w12.heap.size, 1, none⟩ = some (.int .i64 q1) := by rw [Lib.cell_of_heap x13]; rfl
   have u2 : W17.cell? ⟨w12.heap.size, 2, none⟩ = some (.slice g1 m1 h1) := by rw [Lib.cell_of_heap x13]; rfl
   have z0 := frz0 x13 0
   have z1 := frz0 x13 1
   have z2 := frz0 x13 2
   have hw12 : w.heap.size ≤ w12.heap.size := Nat.le_trans HB9.out.size HB12.out.size
   have hrel : (ok1 = true ∧ ok3 = true ∧ p3 = p1 ∧ q3 = q1 ∧ m3 = m1) ∨ (ok1 = false ∧ ok2 = true ∧ ok3 = true ∧ p3 = p2 ∧ q3 = q2 ∧ m3 = m2) ∨ (ok1 = false ∧ ok2 = false ∧ ok3 = false) := by
    rcases HV1.out.cases with ⟨v1, hr1, v2, v3, v4⟩ | ⟨v1, e1, ms1, hr1, v2, v3, v4⟩
    ·rcases HV2.out.cases with ⟨v5, hr2, v6, v7, v8⟩ | ⟨v5, e2, ms2, hr2, v6, v7, v8⟩
     ·rcases HV3.out.cases with ⟨v9, hr3, _⟩ | ⟨v9, e3, ms3, hr3, _⟩
      ·exact .inr (.inr ⟨v1, v5, v9⟩)
      ·rw [HCM.out.2.2 hr1 hr2] at hr3
       cases hr3
     ·obtain ⟨ms', h3', hcn⟩ := HCM.out.2.1 hr1 _ _ hr2
      rcases HV3.out.cases with ⟨v9, hr3, _⟩ | ⟨v9, e3, ms3, hr3, v10, v11, v12⟩
      ·rw [h3'] at hr3
       cases hr3
      ·rw [h3'] at hr3
       injection hr3 with hr3
       injection hr3 with y1 y2
       subst y1 y2
       exact .inr (.inl ⟨v1, v5, v9, by rw [v10, v6], by rw [v11, v7], by rw [v12, v8, hcn]⟩)
    ·obtain ⟨ms', h3', hcn⟩ := HCM.out.1 _ _ hr1
     rcases HV3.out.cases with ⟨v9, hr3, _⟩ | ⟨v9, e3, ms3, hr3, v10, v11, v12⟩
     ·rw [h3'] at hr3
      cases hr3
     ·rw [h3'] at hr3
      injection hr3 with hr3
      injection hr3 with y1 y2
      subst y1 y2
      exact .inl ⟨v1, v9, by rw [v10, v2], by rw [v11, v3], by rw [v12, v4, hcn]⟩
   have hw1 : w12.heap.size < w14.heap.size := Nat.lt_of_lt_of_le (heap_lt X13.out) hsz14
   have hw2 : w14.heap.size < w16.heap.size := Nat.lt_of_lt_of_le (heap_lt X15.out) hsz16
   have hn1 : w16.heap.size ≠ w12.heap.size := by omega
   have hn2 : w14.heap.size ≠ w12.heap.size := by omega
   have HW12 := Lib.hid hw12
   clear HV1 HV2 HV3 HCM x13 x15 x17 hv16 hb16 hb17 X13 X13b X15 hmod hnz HMA HMB HMN hw1 hw2 hsz14 hsz16 hw12
   rcases hrel with ⟨rfl, rfl, rfl, rfl, rfl⟩ | ⟨rfl, rfl, rfl, rfl, rfl, rfl⟩ | ⟨rfl, rfl, rfl⟩
   ·go_wp2_with fail
    go_ret
    exact ⟨rfl, HB17.out⟩
   ·go_wp2_with fail
    go_ret
    exact ⟨rfl, ((HB17.out.setCell (p := ⟨w12.heap.size, 0, none⟩) HW12.out _).setCell (p := ⟨w12.heap.size, 1, none⟩) HW12.out _).setCell (p := ⟨w12.heap.size, 2, none⟩) HW12.out _⟩
   ·go_wp2_with fail
    go_ret
    exact ⟨rfl, ((HB17.out.setCell (p := ⟨w12.heap.size, 0, none⟩) HW12.out _).setCell (p := ⟨w12.heap.size, 1, none⟩) HW12.out _).setCell (p := ⟨w12.heap.size, 2, none⟩) HW12.out _⟩
  ·have z4 : decide ((400 : Int) < (K : Int)) = true := decide_eq_true (by omega)
   go_wp2_with fail
   go_ret
   exact ⟨rfl, HBW11.out⟩
 ·have z : ((E : Int) == 0) = false := by rw [beq_eq_false_iff_ne]; omega
  go_wp2_with fail
  go_ret
  exact ⟨rfl, HBW10.out⟩
end Go.Proofs.YtihdnlpelfgklaaDoor
namespace Go.Proofs.YtihdnlpelfgklaaDoor
open Go.ChangeShapes Go.WideShapes Go.ChangeAt Go.RowKit
theorem own : ownKnob Tryd.prog.godebug = none := by kernel_rfl
def litCells : DataW Unit → Array Value
 | .agg l => (l.map fun | .lit (.int k n) => Value.int k n | _ => undef).toArray
 | _ => #[]
def layAt (d : DataW Unit) : Obj → Obj
 | .cells _ t frozen => .cells (litCells d) t frozen
 | o => o
end Go.Proofs.YtihdnlpelfgklaaDoor
namespace Go.Proofs.YtihdnlpelfgklaaDoor
open Go.ChangeShapes Go.WideShapes Go.ChangeAt Go.RowKit
theorem gKinds : Tryd.prog.globalNamed "logtide/ascii.kinds" = some 0 := by kernel_rfl
theorem gKindsType : (Tryd.prog.globals[0]?).map (·.type) = some 140 := by kernel_rfl
theorem cellsKinds : Tryd.prog.cellsOf 140 = 256 := by kernel_rfl
theorem cellsU8 : Tryd.prog.cellsOf 5 = 1 := by kernel_rfl
theorem kinds_data : (Rows.laid_logtide_ascii_kinds : DataW Unit) = Lib.tabData .u8 Asc.kTab := by kernel_rfl
theorem kinds_of_head {W : World} {rest : List (String × DataW Unit)} (h : laidMet Tryd.prog (("logtide/ascii.kinds", Rows.laid_logtide_ascii_kinds) :: rest) W) : Kinds W := by
 rw [kinds_data] at h
 have ht : Lib.TabIs Tryd.prog W "logtide/ascii.kinds" .u8 Asc.kTab := Lib.tabIs_of_head (zs := Asc.kTab) (rest := rest) gKinds gKindsType Tryd.underlying140 Tryd.underlying5 cellsU8 cellsKinds h
 have hc : ∀ c, c < 256 → W.cell? ⟨0, c, none⟩ = some (.int .u8 (Asc.kind c : Nat)) := fun c hc => by
  rw [← Asc.kTab_at c hc]
  exact ht.cell gKinds c (by simpa [Asc.kTab] using hc)
 exact ⟨World.block_lt_of_cell? W _ (hc 0 (by omega)), hc⟩
def laidOne : List (String × DataW Unit) := [("logtide/ascii.kinds", Rows.laid_logtide_ascii_kinds)]
theorem k_of_laid {W : World} (h : laidMetH Tryd.prog laidOne W) : Kinds W := kinds_of_head (rest := []) h
noncomputable def laidWorld (os : Os) : World :=
 { World.holding Tryd.prog os ⟨#[], #[], []⟩ with heap := (World.holding Tryd.prog os ⟨#[], #[], []⟩).heap.modify 0 (layAt Rows.laid_logtide_ascii_kinds) }
end Go.Proofs.YtihdnlpelfgklaaDoor
namespace Go.Proofs.YtihdnlpelfgklaaDoor
open Go.ChangeShapes Go.WideShapes Go.ChangeAt Go.RowKit
theorem stay_laid : laidOutB Tryd.prog = true := by kernel_rfl
theorem stay_maps : mapsRowed Tryd.prog = true := by kernel_rfl
theorem stay_kids : Kids Tryd.prog (· < Tryd.prog.types.size) := kids_rows stay_laid stay_maps
def slicesSized (P : Program) : Bool := (List.range P.types.size).all fun t => match P.underlying t with | some (.slice e) => decide (0 < P.cellsOf e) | _ => true
theorem stay_sized : slicesSized Tryd.prog = true := by kernel_rfl
theorem stay_pos {t e : TypeId} (ht : t < Tryd.prog.types.size) (h : Tryd.prog.underlying t = some (.slice e)) : 0 < Tryd.prog.cellsOf e := by
 have := (List.all_eq_true.1 stay_sized) t (List.mem_range.2 ht)
 rw [h] at this
 simpa using this
theorem trodAll_stays {H : Type} {enc : TypeId × Value → H} {W W' : World} {sp : Nat → Bool} :
  ∀ {ts : List TypeId} {vs : List Value} {ds : List (DataW H)} {ps : List MemPlace}, (∀ t ∈ ts, t < Tryd.prog.types.size) → DataW.TrodAll enc Tryd.prog W 0 (fun _ => true) true ts vs ds ps →
   (∀ p ∈ ps, W.sameAt W' p) → (∀ p ∈ ps, sp p.block = true) → DataW.TrodAll enc Tryd.prog W' 0 sp true ts vs ds ps
 | [], vs, ds, ps, _, h, _, _ => by
  obtain ⟨rfl, rfl, rfl⟩ := trodAll_nil h
  exact rfl
 | t :: ts, vs, ds, ps, ht, h, h1, h2 => by
  obtain ⟨v, vs', d, ds', p, q, rfl, rfl, rfl, ⟨fuel, hf⟩, hr⟩ := trodAll_cons h
  refine ⟨p, q, ⟨fuel, DataW.trod_stays (x := (d, p)) stay_kids stay_pos (fun h => by cases h) (ht t (by simp)) hf (fun x hx => h1 x (List.mem_append_left _ hx)) (fun x hx => h2 x (List.mem_append_left _ hx))⟩, ?_, rfl⟩
  exact trodAll_stays (fun t h => ht t (List.mem_cons_of_mem _ h)) hr (fun x hx => h1 x (List.mem_append_right _ hx)) (fun x hx => h2 x (List.mem_append_right _ hx))
theorem post_true {H : Type} {enc : TypeId × Value → H} {f : Func} {s : ChangeSpec} {W W' : World} {args : Array Value} {ds gs : List (DataW H)} {before : List MemPlace}
  (hW : DataW.Whole enc Tryd.prog f.params.toList s.vars false W args.toList ds gs before) (hvars : s.vars = []) (hT : ∀ t ∈ f.params.toList, t < Tryd.prog.types.size)
  (hrt : f.resultTypes = #[4]) (hres : (s.fn H ds).results = [.lit (.bool true)]) (hargs : (s.fn H ds).args = ds) (hv : (s.fn H ds).vars = []) (hb : Below W.heap.size W W') :
  s.post enc Tryd.prog f false true false false W args (.bool true) W' := by
 have hlt := hW.lt
 have hW0 := hW
 obtain ⟨p, q, hA, hV, rfl, _, _⟩ := hW
 rw [hvars] at hV
 obtain ⟨rfl, rfl⟩ := trodVars_none hV
 rw [List.append_nil] at hlt
 refine ⟨ds, [], p ++ [], [], p, [], hW0, ?_, ?_, ?_, hb.frame _, fun h => by cases h⟩
 ·rw [List.append_nil, hres, hrt]
  exact trodAll_cons_mk (shut_bool Tryd.underlying4 _) trodAll_mk0
 ·rw [List.append_nil, hargs]
  exact trodAll_stays hT hA (fun x hx => hb.same (hlt x hx)) (fun x hx => by simpa using hlt x hx)
 ·rw [List.append_nil, hv, hvars]
  exact rfl
end Go.Proofs.YtihdnlpelfgklaaDoor
namespace Go.Proofs.YtihdnlpelfgklaaDoor
open Go.ChangeShapes Go.WideShapes Go.ChangeAt Go.RowKit
open Go.ChangeMaps (open_string shut_string)
theorem cellsU8q : Tryd.prog.cellsOf 5 = 1 := by kernel_rfl
set_option maxRecDepth 1000000 in
theorem open_bytes {H : Type} {enc : TypeId × Value → H} {W : World} {base : Nat} {v : Value} {d : DataW H} {p : List MemPlace} (hv : Value.okWide Tryd.prog W .any base 22 v)
  (h : DataW.Trod enc Tryd.prog W 0 (fun _ => true) true 22 v d p) : ∃ bs, BSI W v bs := by
 obtain ⟨a0, len, cap, rfl⟩ := okWide_slice Tryd.underlying22 hv
 obtain ⟨fuel, hf⟩ := h
 rcases open_ints Tryd.underlying22 Tryd.underlying5 cellsU8q hf with ⟨hcs, hx⟩ | ⟨a, len', cap', zs, hcs, _, hl, hm, hz, hx, hcell, hwz⟩
 ·simp only [Prod.mk.injEq] at hx
  obtain ⟨rfl, rfl⟩ := hx
  simp [Value.cells] at hcs
  obtain ⟨rfl, rfl, rfl⟩ := hcs
  exact ⟨[], .inl ⟨rfl, rfl⟩⟩
 ·simp only [Prod.mk.injEq] at hx
  obtain ⟨rfl, rfl⟩ := hx
  simp [Value.cells] at hcs
  obtain ⟨rfl, rfl, rfl⟩ := hcs
  simp only [if_true] at hz
  have hl2 : (zs.take len).length = len := by rw [List.length_take]; omega
  refine ⟨(zs.take len).map fun z => UInt8.ofNat z.toNat, .inr ⟨a, cap, by rw [List.length_map, hl2], by rw [List.length_map, hl2]; exact hl, fun j u hj => ?_⟩⟩
  ·unfold Lib.byteCells at hj
   rw [List.map_map, List.getElem?_map] at hj
   obtain ⟨z, hz1, rfl⟩ := Option.map_eq_some_iff.1 hj
   have hj1 : j < len := by have := (List.getElem?_eq_some_iff.1 hz1).1; omega
   rw [List.getElem?_take_of_lt hj1] at hz1
   obtain ⟨hj2, hz3⟩ := List.getElem?_eq_some_iff.1 hz1
   have hc := hcell j hj2
   have e : zs.getD j 0 = z := by simp [List.getD, hz1]
   rw [e] at hc
   obtain ⟨n, hn, rfl⟩ := u8_nat (hwz z (by rw [← hz3]; exact List.getElem_mem hj2))
   rw [hc]
   simp only [Function.comp_apply, Int.toNat_natCast]
   rw [Asc.ofNat_toNat8 hn]
end Go.Proofs.YtihdnlpelfgklaaDoor
namespace Go.Proofs.YtihdnlpelfgklaaDoor
open Go.ChangeShapes Go.WideShapes Go.ChangeAt Go.RowKit
open Go.ChangeMaps (open_string shut_string)
set_option maxRecDepth 1000000 in
theorem choices_law {H : Type} {enc : TypeId × Value → H} {W : World} {base : Nat} {args : Array Value} {ds : List (DataW H)} {p : List MemPlace}
  (hval : ∀ (j : Nat) t v, (#[22, 9, 5] : Array TypeId)[j]? = some t → args[j]? = some v → Value.okWide Tryd.prog W .any base t v)
  (hA : DataW.TrodAll enc Tryd.prog W 0 (fun _ => true) true [22, 9, 5] args.toList ds p) {B : Prop} (_ : B) (hL : laidMetH Tryd.prog laidOne W) :
  Calls Tryd.prog 3 args W fun e w' => e = .returned (.bool true) ∧ Below W.heap.size W w' := by
 obtain ⟨v0, vs0, d0, ds0, p0, q0, hargs, rfl, rfl, h0, r0⟩ := trodAll_cons hA
 obtain ⟨v1, vs1, d1, ds1, p1, q1, rfl, rfl, rfl, h1, r1⟩ := trodAll_cons r0
 obtain ⟨v2, vs2, d2, ds2, p2, q2, rfl, rfl, rfl, h2, r2⟩ := trodAll_cons r1
 obtain ⟨rfl, rfl, rfl⟩ := trodAll_nil r2
 obtain rfl : args = #[v0, v1, v2] := by cases args; simp_all
 obtain ⟨bs, hbs⟩ := open_bytes (hval 0 22 v0 rfl rfl) h0
 obtain ⟨s, rfl, rfl, rfl, ws⟩ := open_string Tryd.underlying9 (hval 1 9 v1 rfl rfl) h1
 obtain ⟨x, rfl, rfl, rfl, wx⟩ := open_int Tryd.underlying5 (hval 2 5 v2 rfl rfl) h2
 obtain ⟨c, hc, rfl⟩ := u8_nat wx
 obtain ⟨l, rfl⟩ : ∃ l : List UInt8, s = ⟨l.toArray⟩ := ⟨s.data.toList, by simp⟩
 exact choices_any bs v0 l c hc W hbs.bs (k_of_laid hL)
end Go.Proofs.YtihdnlpelfgklaaDoor

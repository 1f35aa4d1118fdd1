/-
  ParseNests' walk.
-/
import Derived.Test.YtfdbjgdafolbmaaDoorJsR
namespace Go.Proofs.YtfdbjgdafolbmaaDoor
open Go.RowKit Go.Sort Go.Shelf

set_option maxRecDepth 100000 in
set_option maxHeartbeats 4000000 in
theorem nests_any (vc : Value) (cs : List UInt8) (dp : Nat) (w : World) (hk : Kinds w) (hc : BS w vc cs) (hdp : dp < 256) :
    Calls Tryd.prog 6 #[vc, .int .u8 dp] w fun e w' => e = .returned (.bool true) ∧ Below w.heap.size w w' := by
  have HA := Lib.hid (awake_any w hk)
  have HK := Lib.hid hk
  have HNW := Lib.hid fun w1 hb1 => new_any vc cs 80 w1 (hc.below hb1) (by omega)
  clear hk hc
  go_enter Tryd.func6, Tryd.ntmps6
  go_wp2_with (go_at_call 7; refine HA.out.mono ?_; rintro e w1 ⟨rfl, hb1⟩)
  refine (HNW.out w1 hb1).mono ?_
  rintro e w2 ⟨rfl, hca, hb2⟩
  have HOG := Lib.hid (objgen_any w1.heap.size w2 hca)
  have hbw2 : Below w.heap.size w w2 := hb1.trans (hb2.mono hb1.size)
  have hg1 := hb1.size
  clear hca
  go_wp2_with fail
  refine HOG.out.mono ?_
  rintro e w3 ⟨b, hI, rfl, _, hap⟩
  have hbw3 : Below w.heap.size w w3 := Apart.below hbw2 hap hg1
  have HI := Lib.hid hI
  have hbl := hI.len
  obtain ⟨k, hkd⟩ : ∃ k, 1 + dp % 9 = k := ⟨_, rfl⟩
  have hk1 : 1 ≤ k := by omega
  have hk9 : k ≤ 9 := by omega
  have HKD := Lib.hid hkd
  have hwl := Js.wraps_len (123 :: b) k
  have hwl2 : (Js.wraps (123 :: b) k).length ≤ 1000 := by rw [hwl]; simp; omega
  have HJ1 := Lib.hid (json_any (123 :: b) w3 (HK.out.below hbw3) (by simp; omega) (wraps_hd hI hk1 hk9).1)
  have HJ2 := Lib.hid fun W hW => json_any (Js.wraps (123 :: b) k) W (HK.out.below hW) hwl2 (wraps_hd hI hk1 hk9).2
  obtain ⟨N, hN⟩ : ∃ N, 123 :: b = N := ⟨_, rfl⟩
  rw [hN] at HJ1 HJ2 ⊢
  have HN := Lib.hid hN
  have hNl : N.length ≤ 61 := by rw [← hN]; simp; omega
  clear hI hap hkd hwl hwl2 HOG HNW HA hN
  go_wp2_with fail
  refine HJ1.out.mono ?_
  intro e w4 h4
  obtain ⟨v1, c1, rfl, hb4⟩ := js_form h4
  have H4 := Lib.hid h4
  have hbw4 : Below w.heap.size w w4 := hbw3.trans (hb4.mono hbw3.size)
  clear h4 HJ1
  have e9 : (1 : Int) + (dp : Int) % 9 = (k : Int) := by have := HKD.out; omega
  have E9 := Lib.hid e9
  clear e9
  go_wp2_with fail
  rw [E9.out]
  go_loop [9, 10, 11] (fun s p i => ∃ n : Nat, n ≤ k ∧ i = .int .i64 n ∧ s = .string ⟨(Js.wraps N n).toArray⟩ ∧ p = .string ⟨(Js.kd n).toArray⟩) (fun _ _ i => k - (intOf i).toNat)
  case atStart => exact ⟨0, by omega, rfl, rfl, rfl⟩
  case round =>
    obtain ⟨n, hn, rfl, rfl, rfl⟩ := hrel
    by_cases hlt : n < k
    · have hl1 := Js.wraps_len N n
      have hl2 : (Js.wraps N n).length ≤ 1000 := by omega
      have hl3 : (Js.kd n).length ≤ 100 := by rw [Js.kd_len]; omega
      have e1 : ByteArray.mk #[123, 34, 107, 34, 58] ++ ByteArray.mk (Js.wraps N n).toArray ++ ByteArray.mk #[125] = ⟨(Js.wraps N (n + 1)).toArray⟩ := by
        show ByteArray.mk ([123, 34, 107, 34, 58] : List UInt8).toArray ++ ByteArray.mk (Js.wraps N n).toArray ++ ByteArray.mk ([125] : List UInt8).toArray = _
        rw [ba_app, ba_app]; rfl
      have e2 : ByteArray.mk (Js.kd n).toArray ++ ByteArray.mk #[107, 46] = ⟨(Js.kd (n + 1)).toArray⟩ := ba_app (Js.kd n) [107, 46]
      have E1 := Lib.hid e1
      have E2 := Lib.hid e2
      clear hl1 e1 e2
      go_wp2_with fail
      go_round
      case rel => exact ⟨n + 1, by omega, by go_num, by rw [E1.out], by rw [E2.out]⟩
      case measure => simp [intOf]; omega
    · obtain rfl : n = k := by omega
      have hl3 : (Js.kd n).length ≤ 100 := by rw [Js.kd_len]; omega
      go_wp2_with fail
      refine (HJ2.out w4 hbw4).mono ?_
      intro e w5 h5
      obtain ⟨v2, c2, rfl, hb5⟩ := js_form h5
      have hbw5 : Below w.heap.size w w5 := hbw4.trans (hb5.mono hbw4.size)
      have hE : Ends n v1 v2 c1 c2 w5 := by
        have h4 := H4.out
        rw [← HN.out] at h4 h5
        exact nests_end HI.out hk1 hk9 h4 h5 hb5
      clear h5 HJ2 H4
      cases hE with
      | name h =>
        subst h
        go_wp2_with fail
        go_ret
        exact ⟨rfl, hbw5⟩
      | wrong h h6 h2 =>
        have t1 : ((c1 : Int) != 0) = true := by rw [bne_iff_ne]; omega
        have t2 : ((c1 : Int) == 6) = false := by rw [beq_eq_false_iff_ne]; omega
        have t3 : ((c2 : Int) != 0) = true := by rw [bne_iff_ne]; omega
        go_wp2_with fail
        go_ret
        exact ⟨rfl, hbw5⟩
      | deep h hk h2 =>
        subst h h2
        have t4 : decide (8 < (n : Int)) = true := decide_eq_true (by omega)
        go_wp2_with fail
        go_ret
        exact ⟨rfl, hbw5⟩
      | long h hk h2 =>
        subst h h2
        have t4 : decide (8 < (n : Int)) = false := decide_eq_false (by omega)
        go_wp2_with fail
        go_ret
        exact ⟨rfl, hbw5⟩
      | right h hk h2 S f1 f2 hl hn =>
        subst h h2
        have t4 : decide (8 < (n : Int)) = false := decide_eq_false (by omega)
        have HNS := Lib.hid hn
        clear hn
        rcases f1 with ⟨hS, rfl⟩ | ⟨hp, g1, cap1, rfl, hf1⟩
        · subst hS
          rcases f2 with ⟨_, rfl⟩ | ⟨hp, _⟩
          · go_wp2_with fail
            refine wp_loop_rounds 1 ?_
            rw [rounds_succ]
            go_wp2_with fail
            go_ret
            exact ⟨rfl, hbw5⟩
          · simp at hp
        · rcases f2 with ⟨hS, _⟩ | ⟨_, g2, cap2, rfl, hf2⟩
          · have := congrArg List.length hS
            rw [List.length_map] at this
            simp at this
            rw [this] at hp
            simp at hp
          · have hml : (S.map (Js.px (Js.kd n))).length = S.length := List.length_map _
            rw [hml]
            have HF1 := Lib.hid hf1
            have HF2 := Lib.hid hf2
            have HML := Lib.hid hml
            obtain ⟨P, hP⟩ : ∃ P, Js.kd n = P := ⟨_, rfl⟩
            rw [hP] at hl3 HF2 HML ⊢
            have tt : ((S.length : Int) != (S.length : Int)) = false := by simp
            clear hf1 hf2 hml hP
            go_wp2_with fail
            go_loopw [68] (fun i wr => ∃ j q : Nat, j ≤ S.length ∧ i = .int .i64 j ∧ wr = w5.drewN q) (fun i _ => S.length - (intOf i).toNat)
            case atStart => exact ⟨0, 0, by omega, rfl, rfl⟩
            case round =>
              obtain ⟨j, q, hj, rfl, rfl⟩ := hrel
              by_cases hjl : j < S.length
              · obtain ⟨a1, a2⟩ := HF1.out j hjl
                obtain ⟨b1, b2⟩ := HF2.out j (by rw [HML.out]; exact hjl)
                rw [List.getElem_map] at b1 b2
                rw [Nat.zero_add] at a1 a2 b1 b2
                have hnl := HNS.out _ (List.getElem_mem hjl)
                have d1 : (w5.drewN q).cell? ⟨g1, j * 2, none⟩ = some (.string ⟨(S[j]).1.toArray⟩) := a1
                have d2 : (w5.drewN q).cell? ⟨g1, j * 2 + 1, none⟩ = some (.string ⟨(S[j]).2.toArray⟩) := a2
                have d3 : (w5.drewN q).cell? ⟨g2, j * 2, none⟩ = some (.string ⟨(P ++ (S[j]).1).toArray⟩) := b1
                have d4 : (w5.drewN q).cell? ⟨g2, j * 2 + 1, none⟩ = some (.string ⟨(S[j]).2.toArray⟩) := b2
                have i1 : (j : Int) < (S.length : Int) := by omega
                have i2 : (0 : Int) ≤ (j : Int) := by omega
                clear a1 a2 b1 b2
                generalize (S[j]).1 = x at *
                generalize (S[j]).2 = y at *
                obtain ⟨C, r1, r2, _⟩ := sumL P x (by omega)
                rw [← r2.out] at d3
                generalize hW : w5.drewN q = W at *
                go_wp2_with fail
                go_quiet (fail)
                go_wp2_with fail
                go_roundw
                case rel => exact ⟨j + 1, _, by omega, by go_num, by rw [← hW, World.drewN_drewN]⟩
                case measure => simp [intOf]; omega
              · go_wp2_with fail
                go_ret
                exact ⟨rfl, below_drewN hbw5 q⟩

end Go.Proofs.YtfdbjgdafolbmaaDoor

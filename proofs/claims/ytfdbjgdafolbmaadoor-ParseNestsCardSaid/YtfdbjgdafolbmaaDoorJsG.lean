/-
  The decoder: value.
-/
import Derived.Test.YtfdbjgdafolbmaaDoorJsF
namespace Go.Proofs.YtfdbjgdafolbmaaDoor
open Go.RowKit Go.Sort Go.Shelf

theorem own_slice {W : World} {B E z n : Nat} {v : Value} {xs : List Value} (h : W.ownsRow B E z v n xs) (hn : 0 < n) : ∃ g c, v = .slice (some ⟨g, 0, none⟩) n c := by
  obtain ⟨_, ⟨_, h0⟩ | ⟨g, cap, cur, hv, _⟩⟩ := h
  · omega
  · exact ⟨g, cap, hv⟩
def Closes (w0 : World) (g : Nat) (s nm v : List UInt8) (b : Nat) (x : Js.State) (W : World) : Prop :=
  ∃ k e fs', k ≤ s.length ∧ DAt w0 g s k e fs' W ∧ fs'.length ≤ 1000 ∧ ∀ W', DAt w0 g s k e (fs' ++ [(nm, v)]) W' → St w0 g s b x W'
theorem closes_txt {w0 W : World} {g : Nat} {s nm q : List UInt8} {fs : List Fd} {res : Option (List UInt8 × List UInt8)} (hs : s.length ≤ 1000) (hq : fs.length + q.length ≤ s.length) (hlen : ∀ x, res = some x → x.2.length < q.length) (h : St w0 g s 0 (Js.optS fs res) W) :
    Closes w0 g s nm (Js.optV res) 1 (Js.resS fs (Js.one nm res)) W := by
  cases res with
  | some x =>
    obtain ⟨k, hk, hr, hd, hl⟩ := h
    refine ⟨k, 0, fs, hk, hd, by omega, fun W' h' => ⟨k, hk, hr, h', ?_⟩⟩
    have := hlen x rfl
    rw [List.length_append]
    simp
    omega
  | none =>
    obtain ⟨hc, k, fs', hk, hd, hl⟩ := h
    exact ⟨k, 1, fs', hk, hd, by omega, fun W' h' => ⟨by decide, k, _, hk, h', by rw [List.length_append]; simp; omega⟩⟩
theorem closes_er {w0 W : World} {g c : Nat} {s nm v : List UInt8} (hs : s.length ≤ 1000) (h : St w0 g s 0 (.er c) W) : Closes w0 g s nm v 1 (.er c) W := by
  obtain ⟨hc, k, fs', hk, hd, hl⟩ := h
  exact ⟨k, c, fs', hk, hd, by omega, fun W' h' => ⟨hc, k, _, hk, h', by rw [List.length_append]; simp; omega⟩⟩

set_option maxRecDepth 100000 in
set_option maxHeartbeats 2000000 in
theorem value_er {w0 W : World} {g c : Nat} {s nm : List UInt8} {dp : Int} (h : St w0 g s 0 (.er c) W) (hs : s.length ≤ 1000) :
    Calls Tryd.prog 53 #[.pointer (some ⟨g, 0, none⟩), .string ⟨nm.toArray⟩, .int .i64 dp] W fun e w' => e = .returned (.tuple #[]) ∧ St w0 g s 1 (.er c) w' := by
  have HB := Lib.hid (blanksS h hs)
  have hc0 : c ≠ 0 := h.1
  have t0 : ((c : Int) == 0) = false := by rw [beq_eq_false_iff_ne]; omega
  clear h
  go_enter Tryd.func53, Tryd.ntmps53
  go_wp2_with (go_at_call 33; refine HB.out.mono ?_)
  rintro e w1 ⟨rfl, h1⟩
  have H1 : Hid (DER w0 g s (s.length + 0) c w1) := h1
  clear h1 HB
  go_wp2_with fail
  refine (seesER H1.out [123]).mono ?_
  rintro e w2 ⟨rfl, h2⟩
  have H2 := Lib.hid h2
  clear h2 H1
  go_wp2_with fail
  refine (seesER H2.out [34]).mono ?_
  rintro e w3 ⟨rfl, h3⟩
  have H3 := Lib.hid h3
  clear h3 H2
  go_wp2_with fail
  refine (seesER H3.out [45, 48, 49, 50, 51, 52, 53, 54, 55, 56, 57]).mono ?_
  rintro e w4 ⟨rfl, h4⟩
  have HC := Lib.hid (closes_er (nm := nm) (v := []) hs h4)
  obtain ⟨_, k4, fs4, hk4, hd4, _⟩ := h4
  have e2 := hd4.c2
  clear hd4 H3
  obtain ⟨k, e0, fs', hk, hD, hl, hcl⟩ := HC.out
  have HD := Lib.hid hD
  have HCL := Lib.hid hcl
  obtain ⟨v3, y1, y2, _⟩ := hD.c3
  have hsz := hD.hi
  have q1 : fs'.length + 1 ≤ 140737488355328 := by omega
  have q2 : (fs'.length + 1) * 32 ≤ 140737488355328 := by omega
  have f3 := hD.fz 3
  clear hD hcl
  go_wp2_with (at_builtin; refine wpList_append_k (ys := [.string ⟨nm.toArray⟩, .string ⟨([] : List UInt8).toArray⟩]) rfl _ _ 27 30 (.agg #[.string ⟨#[]⟩, .string ⟨#[]⟩]) 2 32 rfl Tryd.underlying27 infoF rfl (by decide) (g + 1) _ _ _ rfl y2 rfl w4.heap.size rfl rfl (one_encF [(nm, ([] : List UInt8))]) q1 q2 hsz ?_; intro v' w9 hown' hgrow; obtain ⟨g9, c9, rfl⟩ := own_slice hown' (Nat.succ_pos _); obtain ⟨hbl, hpush⟩ := HD.out.push (nm, ([] : List UInt8)) y2 hown' hgrow; have HPU := Lib.hid hpush; have z1 := (hbl.cell (p := ⟨g, 3, none⟩) (Nat.lt_succ_self _)).trans y1; have z2 := (hbl.frozen (p := ⟨g, 3, none⟩) (Nat.lt_succ_self _)).trans f3; clear hpush hown' hgrow y1 y2 f3)
  go_end0
  exact ⟨rfl, HCL.out _ HPU.out⟩


theorem dgs_in (c : UInt8) : [45, 48, 49, 50, 51, 52, 53, 54, 55, 56, 57].contains c = decide (c = 45 ∨ Js.dg c = true) := by
  have h : ∀ n : Fin 256, [45, 48, 49, 50, 51, 52, 53, 54, 55, 56, 57].contains (UInt8.ofNat n.val) = decide (UInt8.ofNat n.val = 45 ∨ Js.dg (UInt8.ofNat n.val) = true) := by decide +kernel
  have := h ⟨c.toNat, c.toNat_lt⟩
  simpa using this

/-- Where the next byte is no brace: text, number, word. -/
def pick3 (q : List UInt8) : Option (List UInt8 × List UInt8) := match q with | [] => none | c :: _ => if c = 34 then Js.txt q else if c = 45 ∨ Js.dg c = true then Js.num q else Js.wrd q
theorem pick3_len {q : List UInt8} {x : List UInt8 × List UInt8} (h : pick3 q = some x) : x.2.length < q.length := by
  cases q with
  | nil => cases h
  | cons c q =>
    unfold pick3 at h
    simp only at h
    split at h
    · exact (Js.txt_len h).1
    · split at h
      · exact (Js.num_len h).1
      · exact (Js.wrd_len h).1
theorem val_pick (ob : List UInt8 → List UInt8 → Js.Res) (nm r : List UInt8) (h : (Js.blk r).head? ≠ some 123) : Js.val ob nm r = Js.one nm (pick3 (Js.blk r)) := by
  unfold Js.val pick3
  cases e : Js.blk r with
  | nil => rfl
  | cons c q =>
    rw [e] at h
    have hc : c ≠ 123 := fun e => h (by rw [e]; rfl)
    simp only
    rw [if_neg hc]
    split
    · rfl
    · split <;> rfl

set_option maxRecDepth 100000 in
set_option maxHeartbeats 4000000 in
theorem value_3 {w0 W : World} {g : Nat} {s nm r : List UInt8} {fs : List Fd} {dp : Int} (h : DOK w0 g s r fs W) (hs : s.length ≤ 1000) (hb : (Js.blk r).head? ≠ some 123) :
    Calls Tryd.prog 53 #[.pointer (some ⟨g, 0, none⟩), .string ⟨nm.toArray⟩, .int .i64 dp] W fun e w' => e = .returned (.tuple #[]) ∧ St w0 g s 1 (Js.resS fs (Js.one nm (pick3 (Js.blk r)))) w' := by
  have HB := Lib.hid (blanksOK h hs)
  obtain ⟨q, hq⟩ : ∃ q, Js.blk r = q := ⟨_, rfl⟩
  rw [hq] at HB hb ⊢
  have h123 : hd [123] q = false := by
    cases q with
    | nil => rfl
    | cons c t =>
      have hc : c ≠ 123 := fun e => hb (by rw [e]; rfl)
      simp [hd, hc]
  have HS1 := Lib.hid fun W h => sees_ok (w0 := w0) (g := g) (s := s) (r := q) (fs := fs) (W := W) h [123] false h123
  clear h hq hb h123
  by_cases h34 : hd [34] q = true
  · have HS2 := Lib.hid fun W h => sees_ok (w0 := w0) (g := g) (s := s) (r := q) (fs := fs) (W := W) h [34] true h34
    have HP := Lib.hid (show pick3 q = Js.txt q by
      cases q with
      | nil => cases h34
      | cons c t => simp [hd] at h34; simp [pick3, h34])
    clear h34
    rw [HP.out]
    obtain ⟨R, hR⟩ : ∃ R, Js.txt q = R := ⟨_, rfl⟩
    rw [hR]
    have HRR := Lib.hid hR
    clear hR HP
    go_enter Tryd.func53, Tryd.ntmps53
    go_wp2_with (go_at_call 33; refine HB.out.mono ?_)
    rintro e w1 ⟨rfl, h1⟩
    have H1 := Lib.hid h1
    clear h1 HB
    go_wp2_with fail
    refine (HS1.out w1 H1.out).mono ?_
    rintro e w2 ⟨rfl, h2⟩
    have H2 := Lib.hid h2
    clear h2 H1
    go_wp2_with fail
    refine (HS2.out w2 H2.out).mono ?_
    rintro e w3 ⟨rfl, h3⟩
    have H3 := Lib.hid h3
    clear h3 H2
    go_wp2_with fail
    refine (text_any H3.out hs).mono ?_
    intro e w4 h4
    rw [HRR.out] at h4
    obtain ⟨rfl, h5⟩ := st_txt h4
    have HC := Lib.hid (closes_txt (nm := nm) hs H3.out.choose_spec.2.2.2 (fun x h => (Js.txt_len (HRR.out.trans h)).1) h5)
    clear h4 h5 H3
    generalize Js.optV R = V at *
    obtain ⟨k, e0, fs', hk, hD, hl, hcl⟩ := HC.out
    have HD := Lib.hid hD
    have HCL := Lib.hid hcl
    obtain ⟨v3, y1, y2, _⟩ := hD.c3
    have hsz := hD.hi
    have e2 := hD.c2
    have q1 : fs'.length + 1 ≤ 140737488355328 := by omega
    have q2 : (fs'.length + 1) * 32 ≤ 140737488355328 := by omega
    have f3 := hD.fz 3
    clear hD hcl
    go_wp2_with (at_builtin; refine wpList_append_k (ys := [.string ⟨nm.toArray⟩, .string ⟨V.toArray⟩]) rfl _ _ 27 30 (.agg #[.string ⟨#[]⟩, .string ⟨#[]⟩]) 2 32 rfl Tryd.underlying27 infoF rfl (by decide) (g + 1) _ _ _ rfl y2 rfl w4.heap.size rfl rfl (one_encF [(nm, V)]) q1 q2 hsz ?_; intro v' w9 hown' hgrow; obtain ⟨g9, c9, rfl⟩ := own_slice hown' (Nat.succ_pos _); obtain ⟨hbl, hpush⟩ := HD.out.push (nm, V) y2 hown' hgrow; have HPU := Lib.hid hpush; have z1 := (hbl.cell (p := ⟨g, 3, none⟩) (Nat.lt_succ_self _)).trans y1; have z2 := (hbl.frozen (p := ⟨g, 3, none⟩) (Nat.lt_succ_self _)).trans f3; clear hpush hown' hgrow y1 y2 f3)
    go_end0
    exact ⟨rfl, HCL.out _ HPU.out⟩
  · have h34' : hd [34] q = false := by simpa using h34
    have HS2 := Lib.hid fun W h => sees_ok (w0 := w0) (g := g) (s := s) (r := q) (fs := fs) (W := W) h [34] false h34'
    by_cases hdg : hd [45, 48, 49, 50, 51, 52, 53, 54, 55, 56, 57] q = true
    · have HS3 := Lib.hid fun W h => sees_ok (w0 := w0) (g := g) (s := s) (r := q) (fs := fs) (W := W) h [45, 48, 49, 50, 51, 52, 53, 54, 55, 56, 57] true hdg
      have HP := Lib.hid (show pick3 q = Js.num q by
        cases q with
        | nil => cases hdg
        | cons c t =>
          unfold hd at hdg
          simp only at hdg
          rw [dgs_in, decide_eq_true_iff] at hdg
          simp [hd] at h34
          simp only [pick3]
          rw [if_neg h34, if_pos hdg])
      clear h34 h34' hdg
      rw [HP.out]
      obtain ⟨R, hR⟩ : ∃ R, Js.num q = R := ⟨_, rfl⟩
      rw [hR]
      have HRR := Lib.hid hR
      clear hR HP
      go_enter Tryd.func53, Tryd.ntmps53
      go_wp2_with (go_at_call 33; refine HB.out.mono ?_)
      rintro e w1 ⟨rfl, h1⟩
      have H1 := Lib.hid h1
      clear h1 HB
      go_wp2_with fail
      refine (HS1.out w1 H1.out).mono ?_
      rintro e w2 ⟨rfl, h2⟩
      have H2 := Lib.hid h2
      clear h2 H1
      go_wp2_with fail
      refine (HS2.out w2 H2.out).mono ?_
      rintro e w3 ⟨rfl, h3⟩
      have H3 := Lib.hid h3
      clear h3 H2
      go_wp2_with fail
      refine (HS3.out w3 H3.out).mono ?_
      rintro e w5 ⟨rfl, h5⟩
      have H5 := Lib.hid h5
      clear h5 H3
      go_wp2_with fail
      refine (number_any H5.out hs).mono ?_
      intro e w4 h4
      rw [HRR.out] at h4
      obtain ⟨rfl, h6⟩ := st_txt h4
      have HC := Lib.hid (closes_txt (nm := nm) hs H5.out.choose_spec.2.2.2 (fun x h => (Js.num_len (HRR.out.trans h)).1) h6)
      clear h4 h6 H5
      generalize Js.optV R = V at *
      obtain ⟨k, e0, fs', hk, hD, hl, hcl⟩ := HC.out
      have HD := Lib.hid hD
      have HCL := Lib.hid hcl
      obtain ⟨v3, y1, y2, _⟩ := hD.c3
      have hsz := hD.hi
      have e2 := hD.c2
      have q1 : fs'.length + 1 ≤ 140737488355328 := by omega
      have q2 : (fs'.length + 1) * 32 ≤ 140737488355328 := by omega
      have f3 := hD.fz 3
      clear hD hcl
      go_wp2_with (at_builtin; refine wpList_append_k (ys := [.string ⟨nm.toArray⟩, .string ⟨V.toArray⟩]) rfl _ _ 27 30 (.agg #[.string ⟨#[]⟩, .string ⟨#[]⟩]) 2 32 rfl Tryd.underlying27 infoF rfl (by decide) (g + 1) _ _ _ rfl y2 rfl w4.heap.size rfl rfl (one_encF [(nm, V)]) q1 q2 hsz ?_; intro v' w9 hown' hgrow; obtain ⟨g9, c9, rfl⟩ := own_slice hown' (Nat.succ_pos _); obtain ⟨hbl, hpush⟩ := HD.out.push (nm, V) y2 hown' hgrow; have HPU := Lib.hid hpush; have z1 := (hbl.cell (p := ⟨g, 3, none⟩) (Nat.lt_succ_self _)).trans y1; have z2 := (hbl.frozen (p := ⟨g, 3, none⟩) (Nat.lt_succ_self _)).trans f3; clear hpush hown' hgrow y1 y2 f3)
      go_end0
      exact ⟨rfl, HCL.out _ HPU.out⟩
    · have hdg' : hd [45, 48, 49, 50, 51, 52, 53, 54, 55, 56, 57] q = false := by simpa using hdg
      have HS3 := Lib.hid fun W h => sees_ok (w0 := w0) (g := g) (s := s) (r := q) (fs := fs) (W := W) h [45, 48, 49, 50, 51, 52, 53, 54, 55, 56, 57] false hdg'
      have HP := Lib.hid (show pick3 q = Js.wrd q by
        cases q with
        | nil => rfl
        | cons c t =>
          unfold hd at hdg
          simp only at hdg
          rw [dgs_in, decide_eq_true_iff] at hdg
          simp [hd] at h34
          simp only [pick3]
          rw [if_neg h34, if_neg hdg])
      clear h34 h34' hdg hdg'
      rw [HP.out]
      obtain ⟨R, hR⟩ : ∃ R, Js.wrd q = R := ⟨_, rfl⟩
      rw [hR]
      have HRR := Lib.hid hR
      clear hR HP
      go_enter Tryd.func53, Tryd.ntmps53
      go_wp2_with (go_at_call 33; refine HB.out.mono ?_)
      rintro e w1 ⟨rfl, h1⟩
      have H1 := Lib.hid h1
      clear h1 HB
      go_wp2_with fail
      refine (HS1.out w1 H1.out).mono ?_
      rintro e w2 ⟨rfl, h2⟩
      have H2 := Lib.hid h2
      clear h2 H1
      go_wp2_with fail
      refine (HS2.out w2 H2.out).mono ?_
      rintro e w3 ⟨rfl, h3⟩
      have H3 := Lib.hid h3
      clear h3 H2
      go_wp2_with fail
      refine (HS3.out w3 H3.out).mono ?_
      rintro e w5 ⟨rfl, h5⟩
      have H5 := Lib.hid h5
      have e5 : w5.cell? ⟨g, 2, none⟩ = some (.int .i64 0) := by
        obtain ⟨_, _, _, hd5, _⟩ := h5
        exact hd5.c2
      clear h5 H3
      go_wp2_with fail
      refine (word_any2 H5.out hs).mono ?_
      intro e w4 h4
      rw [HRR.out] at h4
      obtain ⟨rfl, h6⟩ := st_txt h4
      have HC := Lib.hid (closes_txt (nm := nm) hs H5.out.choose_spec.2.2.2 (fun x h => (Js.wrd_len (HRR.out.trans h)).1) h6)
      clear h4 h6 H5 e5
      generalize Js.optV R = V at *
      obtain ⟨k, e0, fs', hk, hD, hl, hcl⟩ := HC.out
      have HD := Lib.hid hD
      have HCL := Lib.hid hcl
      obtain ⟨v3, y1, y2, _⟩ := hD.c3
      have hsz := hD.hi
      have e2 := hD.c2
      have q1 : fs'.length + 1 ≤ 140737488355328 := by omega
      have q2 : (fs'.length + 1) * 32 ≤ 140737488355328 := by omega
      have f3 := hD.fz 3
      clear hD hcl
      go_wp2_with (at_builtin; refine wpList_append_k (ys := [.string ⟨nm.toArray⟩, .string ⟨V.toArray⟩]) rfl _ _ 27 30 (.agg #[.string ⟨#[]⟩, .string ⟨#[]⟩]) 2 32 rfl Tryd.underlying27 infoF rfl (by decide) (g + 1) _ _ _ rfl y2 rfl w4.heap.size rfl rfl (one_encF [(nm, V)]) q1 q2 hsz ?_; intro v' w9 hown' hgrow; obtain ⟨g9, c9, rfl⟩ := own_slice hown' (Nat.succ_pos _); obtain ⟨hbl, hpush⟩ := HD.out.push (nm, V) y2 hown' hgrow; have HPU := Lib.hid hpush; have z1 := (hbl.cell (p := ⟨g, 3, none⟩) (Nat.lt_succ_self _)).trans y1; have z2 := (hbl.frozen (p := ⟨g, 3, none⟩) (Nat.lt_succ_self _)).trans f3; clear hpush hown' hgrow y1 y2 f3)
      go_end0
      exact ⟨rfl, HCL.out _ HPU.out⟩

end Go.Proofs.YtfdbjgdafolbmaaDoor

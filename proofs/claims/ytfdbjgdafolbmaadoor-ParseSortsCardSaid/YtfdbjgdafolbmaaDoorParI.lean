/-
  KeyValue of package parse, where the pairs are right.
-/
import Derived.Test.YtfdbjgdafolbmaaDoorParH
namespace Go.Proofs.YtfdbjgdafolbmaaDoor
open Go.RowKit Go.Sort Go.Shelf

/-- Blanks ahead of a string struck. -/
def trimB (l : List UInt8) : List UInt8 := l.dropWhile (· == 32)
/-- The pairs of a string, one after the other. -/
inductive KV : List UInt8 → List Fd → Prop
  | done : KV [] []
  | step {s nm v r : List UInt8} {fs : List Fd} (h0 : s ≠ []) (hr : r.length ≤ 100000) (hl : (trimB r).length < s.length)
      (hp : ∀ w, Calls Tryd.prog 24 #[.string ⟨s.toArray⟩] w fun e w' => e = .returned (.tuple #[fieldV nm v, .string ⟨r.toArray⟩, .bool true]) ∧ Below w.heap.size w w')
      (h : KV (trimB r) fs) : KV s ((nm, v) :: fs)

structure KI (w : World) (out : List Fd) (v : Value) (W : World) : Prop where
  own : W.ownsRow w.heap.size 30 2 v out.length (cellsF out)
  below : Below w.heap.size w W
theorem KI.nil (w : World) : KI w [] (.slice none 0 0) w := ⟨⟨rfl, .inl ⟨rfl, rfl⟩⟩, Below.refl _ _⟩

theorem KI.later {w : World} {out : List Fd} {v : Value} {W W' : World} (h : KI w out v W) (hb : Below W.heap.size W W') : KI w out v W' := by
  refine ⟨?_, h.below.trans (hb.mono h.below.size)⟩
  obtain ⟨h1, h2⟩ := h.own
  refine ⟨h1, h2.imp id ?_⟩
  rintro ⟨g, cap, cur, rfl, hB, hg, rest⟩
  refine ⟨g, cap, cur, rfl, hB, ?_, rest⟩
  rw [hb.block g ?_]
  · exact hg
  · rcases Nat.lt_or_ge g W.heap.size with c | c
    · exact c
    · rw [Array.getElem?_eq_none c] at hg; cases hg
theorem KI.push {w : World} {out : List Fd} {v v' : Value} {W W' : World} {o : Obj} (h : KI w out v W) (x : Fd) (ho : W'.ownsRow w.heap.size 30 2 v' (out.length + 1) (cellsF out ++ encF x)) (hg : (W.alloc o).grownBy W' v.ownBlock) : KI w (out ++ [x]) v' W' := by
  refine ⟨?_, h.below.trans (((Below.refl _ W).alloc h.below.size _).grown hg (by have := h.below.size; simp; omega) (fun k hk => (h.own.lt k hk).1))⟩
  have e : cellsF (out ++ [x]) = cellsF out ++ encF x := by simp [cellsF]
  rw [e, List.length_append]
  exact ho

set_option maxRecDepth 100000 in
set_option maxHeartbeats 1000000 in
theorem keyValue_right (l : List UInt8) (d : List Fd) (w : World) (hk : Kinds w) (hl : l.length ≤ 100000) (hkv : KV (trimB l) d) (h1 : 0 < d.length) (h19 : d.length ≤ 19) (hn : ∀ i (h : i < d.length), NameOk (d[i]).1)
    (hdist : ∀ i, 1 ≤ i → i < d.length → ((sortF d.toArray)[i]!).1 ≠ ((sortF d.toArray)[i - 1]!).1) (hsz : (sortF d.toArray).size = d.length)
    (HT : Hid (∀ (s : List UInt8) (w : World), s.length ≤ 100000 → Calls Tryd.prog 23 #[.string ⟨s.toArray⟩, .string ⟨#[32]⟩] w fun e w' => e = .returned (.string ⟨(trimB s).toArray⟩) ∧ w = w')) :
    Calls Tryd.prog 11 #[.string ⟨l.toArray⟩] w fun e w' => ∃ g' c', e = .returned (.tuple #[.slice (some ⟨g', 0, none⟩) d.length c', .int .i64 0]) ∧ w.heap.size ≤ g' ∧
      (∀ i (_ : i < d.length), w'.cell? ⟨g', i * 2, none⟩ = some (.string ⟨((sortF d.toArray)[i]!).1.toArray⟩) ∧ w'.cell? ⟨g', i * 2 + 1, none⟩ = some (.string ⟨((sortF d.toArray)[i]!).2.toArray⟩)) ∧ Below w.heap.size w w' := by
  have HS := Lib.hid fun g cap W hK hg hc => sort_right g cap d W hK hg hc h1 h19 hn hdist hsz
  have HK := Lib.hid hk
  have HV := Lib.hid hkv
  clear hk hkv hn hdist hsz
  go_enter Tryd.func11, Tryd.ntmps11
  go_wp2_with (go_at_call 23; refine (HT.out l _ hl).mono ?_; rintro e w' ⟨rfl, rfl⟩)
  go_loopw [0, 4] (fun s v wr => ∃ cur out fs, s = .string ⟨(cur : List UInt8).toArray⟩ ∧ KV cur fs ∧ out ++ fs = d ∧ KI w out v wr) (fun s _ _ => (strOf s).length)
  case atStart => exact ⟨trimB l, [], d, rfl, HV.out, rfl, KI.nil w⟩
  case round =>
    obtain ⟨cur, out, fs, rfl, hkv, hd, hI⟩ := hrel
    have HI := Lib.hid hI
    have HD := Lib.hid hd
    clear hI hd
    cases hkv with
    | done =>
      have hod : out = d := by have := HD.out; rwa [List.append_nil] at this
      subst hod
      obtain ⟨g, cap, hv⟩ : ∃ g cap, u4 = .slice (some ⟨g, 0, none⟩) out.length cap := by
        obtain ⟨_, ⟨_, h0⟩ | ⟨g, cap, cur, hv, _⟩⟩ := HI.out.own
        · omega
        · exact ⟨g, cap, hv⟩
      subst hv
      obtain ⟨hg, hgB, hcl, hfr⟩ := cells_ownF HI.out.own
      have HC := Lib.hid hcl
      clear hcl hfr
      go_wp2_with fail
      refine (HS.out g cap wr (HK.out.below HI.out.below) hg HC.out).mono ?_
      rintro e w2 ⟨g', c', rfl, hg', hc', hb'⟩
      have HC' := Lib.hid hc'
      clear hc'
      go_wp2_with fail
      go_ret2
      exact ⟨g', c', rfl, Nat.le_trans HI.out.below.size hg', HC'.out, HI.out.below.trans (hb'.mono HI.out.below.size)⟩
    | @step _ nm v r fs h0 hr hlt hp h =>
      have hne : cur.isEmpty = false := by cases cur with | nil => exact absurd rfl h0 | cons a b => rfl
      have HP := Lib.hid hp
      have HX := Lib.hid h
      clear hp h h0
      have hol : out.length ≤ 19 := by have e := congrArg List.length HD.out; rw [List.length_append] at e; omega
      go_wp2_with fail
      refine (HP.out wr).mono ?_
      rintro e w1 ⟨rfl, hb1⟩
      have HI1 := Lib.hid ((HI.out.later hb1).later ((Below.refl _ w1).alloc (Nat.le_refl _) (.cells #[.string ⟨nm.toArray⟩, .string ⟨v.toArray⟩] 30)))
      have hown := HI1.out.own
      have hsz := HI1.out.below.size
      have q1 : out.length + 1 ≤ 140737488355328 := by omega
      have q2 : (out.length + 1) * 32 ≤ 140737488355328 := by omega
      go_wp2_with (at_builtin; refine wpList_append_k (ys := [.string ⟨nm.toArray⟩, .string ⟨v.toArray⟩]) rfl _ _ 27 30 (.agg #[.string ⟨#[]⟩, .string ⟨#[]⟩]) 2 32 rfl Tryd.underlying27 infoF rfl (by decide) w.heap.size _ _ _ rfl hown rfl (w1.heap.size + 1) (by simp) rfl (one_encF [(nm, v)]) q1 q2 hsz ?_; intro v' w2 hown' hgrow; have HX2 := Lib.hid (HI1.out.push (nm, v) hown' hgrow); clear hown hown' hgrow)
      refine (HT.out r w2 hr).mono ?_
      rintro e w' ⟨rfl, rfl⟩
      go_wp2_with fail
      go_roundw
      case rel => exact ⟨trimB r, out ++ [(nm, v)], fs, rfl, HX.out, by rw [← HD.out]; simp, HX2.out⟩
      case measure => simp [strOf]; omega

end Go.Proofs.YtfdbjgdafolbmaaDoor

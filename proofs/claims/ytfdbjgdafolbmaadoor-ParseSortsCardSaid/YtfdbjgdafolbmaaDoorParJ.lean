/-
  awake (the sanity check of the laws of chapter 11) is true.
-/
import Derived.Test.YtfdbjgdafolbmaaDoorParI
namespace Go.Proofs.YtfdbjgdafolbmaaDoor
open Go.RowKit Go.Sort Go.Shelf

theorem trim_left (s : List UInt8) (w : World) : Calls Tryd.prog 23 #[.string ⟨s.toArray⟩, .string ⟨#[32]⟩] w fun e w' => e = .returned (.string ⟨(trimB s).toArray⟩) ∧ w = w' := by
  have h := Tryd.strings_TrimLeft_one ⟨s.toArray⟩ 32 (by decide) w
  refine h.mono fun e w' ⟨h1, h2⟩ => ⟨?_, h2.symm⟩
  rw [h1]
  congr 1
theorem ascii_all {l : List UInt8} (h : l.all (fun b => decide (b.toNat < 128)) = true) : ∀ (j : Nat) b, l[j]? = some b → b.toNat < 128 := fun j b hb => by
  have := List.all_eq_true.1 h b (List.mem_of_getElem? hb)
  simpa using this
theorem name_1 (c : UInt8) (h : Asc.isLetter c.toNat = true) : NameOk [c] := ⟨by simp, by simp, .inl h, fun k hk => by
  obtain rfl : k = 0 := by simp at hk; exact hk
  refine .inl ?_
  show Asc.isWord c.toNat = true
  unfold Asc.isWord
  rw [h]; simp⟩

def awL : List UInt8 := [98, 61, 50, 32, 97, 61, 34, 120, 32, 121, 34]
def awD : List Fd := [([98], [50]), ([97], [120, 32, 121])]
theorem aw_kv : KV (trimB awL) awD := by
  refine KV.step (r := [32, 97, 61, 34, 120, 32, 121, 34]) (by decide) (by decide) (by decide) (fun w => ?_) (KV.step (r := []) (by decide) (by decide) (by decide) (fun w => ?_) KV.done)
  · exact pair_plain [98] [50] [97, 61, 34, 120, 32, 121, 34] w (by decide)
      (fun w => indexAny_at [98, 61, 50, 32, 97, 61, 34, 120, 32, 121, 34] [61, 32] 1 w (by decide +kernel) (by decide) (by decide) (ascii_all (by decide)) (ascii_all (by decide)))
      (fun w => indexAny_at [50, 32, 97, 61, 34, 120, 32, 121, 34] [34, 32] 1 w (by decide +kernel) (by decide) (by decide) (ascii_all (by decide)) (ascii_all (by decide))) (by decide)
  · exact pair_quoted [97] [120, 32, 121, 34] [120, 32, 121] [] w (by decide)
      (fun w => indexAny_at [97, 61, 34, 120, 32, 121, 34] [61, 32] 1 w (by decide +kernel) (by decide) (by decide) (ascii_all (by decide)) (ascii_all (by decide))) (by decide +kernel) (.inl rfl)
theorem aw_sort : sortF awD.toArray = #[([97], [120, 32, 121]), ([98], [50])] := by decide +kernel

theorem awake_any (w : World) (hk : Kinds w) : Calls Tryd.prog 7 #[] w fun e w' => e = .returned (.bool true) ∧ Below w.heap.size w w' := by
  have HV := Lib.hid (keyValue_right awL awD w hk (by decide) aw_kv (by decide) (by decide)
    (fun i h => by
      have : i = 0 ∨ i = 1 := by simp [awD] at h; omega
      rcases this with rfl | rfl
      · exact name_1 98 (by decide)
      · exact name_1 97 (by decide))
    (fun i h1 h2 => by
      obtain rfl : i = 1 := by simp [awD] at h2; omega
      rw [aw_sort]; decide)
    (by rw [aw_sort]; rfl) (show ∀ (s : List UInt8) (w : World), s.length ≤ 100000 → _ from fun s w _ => trim_left s w))
  rw [aw_sort, show awD.length = 2 from rfl] at HV
  go_enter Tryd.func7, Tryd.ntmps7
  go_wp2_with (go_at_call 11; refine HV.out.mono ?_)
  rintro e w1 ⟨g, c, rfl, hg, hc, hb⟩
  have a0 := (hc 0 (by decide)).1
  have a1 := (hc 0 (by decide)).2
  have b1 := (hc 1 (by decide)).2
  have HB := Lib.hid hb
  clear hc hb
  go_wp2_with fail
  go_ret
  exact ⟨rfl, HB.out⟩

end Go.Proofs.YtfdbjgdafolbmaaDoor

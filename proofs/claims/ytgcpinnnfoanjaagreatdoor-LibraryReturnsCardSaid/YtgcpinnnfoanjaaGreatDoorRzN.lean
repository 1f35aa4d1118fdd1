/-
  Joined: LbN, ShelfT, LbQ, LbR, LbS, LbT, LbU.
-/
import Derived.Test.YtgcpinnnfoanjaaGreatDoorRzA
import Derived.Lib.Split
import Derived.Lib.SlTrimSet
import Derived.Shelf.Strings.Trim
import Derived.Test.YtgcpinnnfoanjaaGreatDoorProg
import Derived.Test.YtgcpinnnfoanjaaGreatDoorRzB
import Derived.Shelf.Strings.SlTrimAscii
import Derived.Deep.RegionHeld3
import Derived.Test.YtgcpinnnfoanjaaGreatDoorRzAb
import Derived.Lib.SplitLaws
import Derived.BigQuiet
/-
  The text of a library, plainly: what is written is read back.
-/
namespace Go.Proofs.YtgcpinnnfoanjaaGreatDoor.Lb

def spL : List UInt8 := [32, 9]
/-- A line: nothing, a definition, or an error. -/
def lineM (s : List UInt8) : Except Nat (Option Def) :=
  if Go.Lib.trimS s spL = [] ∨ (Go.Lib.trimS s spL).head? = some 35 then .ok none
  else if nlen (Go.Lib.trimS s spL) = 0 ∨ (Go.Lib.trimS s spL).length ≤ nlen (Go.Lib.trimS s spL) ∨ ¬ ((Go.Lib.trimS s spL).drop (nlen (Go.Lib.trimS s spL))).head? ∈ ([some 32, some 9] : List (Option UInt8)) then .error 1
  else .ok (some ((Go.Lib.trimS s spL).take (nlen (Go.Lib.trimS s spL)), Go.Lib.trimS ((Go.Lib.trimS s spL).drop (nlen (Go.Lib.trimS s spL))) spL))
/-- The lines of a text, from number i on. -/
def plM : List (List UInt8) → Nat → List Def → Except (Nat × Nat) (List Def)
  | [], _, acc => .ok acc
  | s :: ss, i, acc => match lineM s with
    | .error e => .error (i + 1, e)
    | .ok none => plM ss (i + 1) acc
    | .ok (some d) => if (findM acc d.1).isSome then .error (i + 1, 7) else if acc.length = 40 then .error (i + 1, 4) else plM ss (i + 1) (acc ++ [d])
/-- Format. -/
def fmtL (l : List Def) : List UInt8 := (l.map fun d => d.1 ++ 32 :: (d.2 ++ [10])).flatten

theorem index_byte (c : UInt8) : ∀ (a r : List UInt8), c ∉ a → Go.Lib.index (a ++ c :: r) [c] = a.length
  | [], r, _ => by
    rw [List.nil_append, Go.Lib.index, if_pos (by simp [List.isPrefixOf])]
    rfl
  | x :: a, r, h => by
    have hx : c ≠ x := fun e => h (by rw [e]; simp)
    have ih := index_byte c a r (fun e => h (List.mem_cons_of_mem _ e))
    rw [List.cons_append, Go.Lib.index, if_neg (by simp [List.isPrefixOf, hx]), ih]
    have : ¬ (((a.length : Int) == -1) = true) := by rw [beq_iff_eq]; omega
    rw [if_neg this, List.length_cons]
    exact (Int.natCast_succ _).symm
theorem split_line (a r : List UInt8) (h : (10 : UInt8) ∉ a) : Go.Lib.split (a ++ 10 :: r) [10] = a :: Go.Lib.split r [10] := by
  have hi := index_byte 10 a r h
  have hd : (a ++ 10 :: r).drop (a.length + 1) = r := by
    rw [List.drop_append, List.drop_eq_nil_of_le (by omega), List.nil_append, show a.length + 1 - a.length = 1 by omega]
    rfl
  have hc : Go.Lib.count (a ++ 10 :: r) [10] = 1 + Go.Lib.count r [10] := by
    rw [Go.Lib.count_hit (i := a.length) (by simp) hi]
    simp only [List.length_cons, List.length_nil, Nat.zero_add]
    rw [hd]
  unfold Go.Lib.split
  rw [hc, Nat.add_comm, Go.Lib.splitK, hi]
  have : ¬ (((a.length : Int) == -1) = true) := by rw [beq_iff_eq]; omega
  rw [if_neg this]
  simp only [Int.toNat_natCast, Nat.add_zero, List.length_cons, List.length_nil, Nat.zero_add]
  rw [hd, List.take_left' rfl]
theorem split_nil : Go.Lib.split [] [10] = [[]] := rfl
/-- A byte that stays where blanks are cut off. -/
def firm (c : UInt8) : Prop := c ≠ 32 ∧ c ≠ 9
theorem trim_self {l : List UInt8} (h1 : ∀ c, l.head? = some c → firm c) (h2 : ∀ c, l.getLast? = some c → firm c) : Go.Lib.trimS l spL = l := by
  have key : ∀ m : List UInt8, (∀ c, m.head? = some c → firm c) → m.dropWhile (spL.contains ·) = m := by
    intro m hm
    cases m with
    | nil => rfl
    | cons c t =>
      have := hm c rfl
      rw [List.dropWhile_cons_of_neg]
      simp only [spL, List.contains_cons, List.contains_nil, Bool.or_false, Bool.or_eq_true, beq_iff_eq, not_or]
      exact ⟨this.1, this.2⟩
  unfold Go.Lib.trimS Go.Lib.trimLeftS Go.Lib.trimRightS
  have hr : l.reverse.dropWhile (spL.contains ·) = l.reverse := key _ (fun c hc => h2 c (by rwa [List.head?_reverse] at hc))
  rw [hr, List.reverse_reverse]
  exact key l h1
theorem trim_blank {l : List UInt8} (h0 : l ≠ []) (h1 : ∀ c, l.head? = some c → firm c) (h2 : ∀ c, l.getLast? = some c → firm c) : Go.Lib.trimS (32 :: l) spL = l := by
  have hs := trim_self h1 h2
  unfold Go.Lib.trimS Go.Lib.trimLeftS Go.Lib.trimRightS at hs ⊢
  have hr : (32 :: l).reverse.dropWhile (spL.contains ·) = (32 :: l).reverse := by
    rw [List.reverse_cons]
    cases hq : l.reverse with
    | nil => exact absurd (List.reverse_eq_nil_iff.1 hq) h0
    | cons c t =>
      have hc : firm c := h2 c (by rw [← List.head?_reverse, hq]; rfl)
      rw [List.cons_append, List.dropWhile_cons_of_neg]
      simp only [spL, List.contains_cons, List.contains_nil, Bool.or_false, Bool.or_eq_true, beq_iff_eq, not_or]
      exact ⟨hc.1, hc.2⟩
  rw [hr, List.reverse_reverse, List.dropWhile_cons_of_pos (by decide)]
  have hr2 : l.reverse.dropWhile (spL.contains ·) = l.reverse := by
    cases hq : l.reverse with
    | nil => rfl
    | cons c t =>
      have hc : firm c := h2 c (by rw [← List.head?_reverse, hq]; rfl)
      rw [List.dropWhile_cons_of_neg]
      simp only [spL, List.contains_cons, List.contains_nil, Bool.or_false, Bool.or_eq_true, beq_iff_eq, not_or]
      exact ⟨hc.1, hc.2⟩
  rw [hr2, List.reverse_reverse] at hs
  exact hs
/-- A definition that comes back from its line. -/
structure DefOk (d : Def) : Prop where
  nm : NmOk d.1
  ne : d.2 ≠ []
  hd : ∀ c, d.2.head? = some c → firm c
  lt : ∀ c, d.2.getLast? = some c → firm c
  nl : (10 : UInt8) ∉ d.2
theorem nlen_at_blank {n r : List UInt8} (h : NmOk n) : nlen (n ++ 32 :: r) = n.length := by
  obtain ⟨h0, h1, h2, h3⟩ := h
  have := nlen_at (l := n ++ 32 :: r) (k := n.length) (by omega) (by simp) (by rw [List.getElem_append_left h0]; exact h2 h0)
    (fun i hi h4 h5 => by rw [List.getElem_append_left h5]; exact h3 i h5)
    (fun hh => by rw [List.getElem_append_right (Nat.le_refl _)]; simp only [Nat.sub_self, List.getElem_cons_zero]; decide)
  rw [this, if_neg (by omega)]
theorem word_firm {c : UInt8} (h : Asc.isWord c.toNat = true) : firm c ∧ c ≠ 35 ∧ c ≠ 10 := by
  refine ⟨⟨?_, ?_⟩, ?_, ?_⟩
  all_goals
    rintro rfl
    revert h
    decide
theorem line_back {d : Def} (h : DefOk d) : lineM (d.1 ++ 32 :: d.2) = .ok (some d) := by
  obtain ⟨n, s⟩ := d
  obtain ⟨hn, h0, hhd, hlt, hnl⟩ := h
  simp only at hn h0 hhd hlt hnl
  have hn0 := hn.1
  have hw : ∀ c, n.head? = some c → Asc.isWord c.toNat = true := fun c hc => by
    cases n with
    | nil => cases hc
    | cons x t => injection hc with hc; subst hc; exact hn.2.2.2 0 (by simp)
  have hhead : ∀ c, (n ++ 32 :: s).head? = some c → Asc.isWord c.toNat = true := fun c hc => by
    cases n with
    | nil => simp at hn0
    | cons x t => exact hw c hc
  have ht : Go.Lib.trimS (n ++ 32 :: s) spL = n ++ 32 :: s := trim_self (fun c hc => (word_firm (hhead c hc)).1) (fun c hc => hlt c (by
    rw [List.getLast?_append, List.getLast?_cons] at hc
    cases hq : s.getLast? with
    | none => exact absurd (List.getLast?_eq_none_iff.1 hq) h0
    | some x => rw [hq] at hc; simpa using hc))
  have hne : n ++ 32 :: s ≠ [] := by simp
  have h35 : (n ++ 32 :: s).head? ≠ some 35 := fun e => (word_firm (hhead 35 e)).2.1 rfl
  have hdr : (n ++ 32 :: s).drop n.length = 32 :: s := List.drop_left' rfl
  unfold lineM
  simp only
  rw [ht, nlen_at_blank hn, hdr, trim_blank h0 hhd hlt, List.take_left' rfl]
  rw [if_neg (by rintro (h | h); exact hne h; exact h35 h), if_neg]
  rintro (h | h | h)
  · omega
  · simp at h
    omega
  · exact h (by simp)
theorem fmtL_nil : fmtL [] = [] := rfl
theorem fmtL_cons (d : Def) (l : List Def) : fmtL (d :: l) = (d.1 ++ 32 :: d.2) ++ 10 :: fmtL l := by
  unfold fmtL
  simp
theorem plM_back : ∀ (l : List Def) (i : Nat) (acc : List Def), (∀ d ∈ l, DefOk d) → acc.length + l.length ≤ 40 → ((acc ++ l).map (·.1)).Nodup → plM (Go.Lib.split (fmtL l) [10]) i acc = .ok (acc ++ l)
  | [], i, acc, _, _, _ => by
    rw [fmtL_nil, split_nil, plM]
    have : lineM [] = .ok none := rfl
    rw [this]
    simp only
    rw [plM, List.append_nil]
  | d :: l, i, acc, h, hl, hn => by
    have hd := h d (by simp)
    have hnl : (10 : UInt8) ∉ d.1 ++ 32 :: d.2 := by
      intro e
      rcases List.mem_append.1 e with e | e
      · obtain ⟨j, hj, e⟩ := List.mem_iff_getElem.1 e
        have := hd.nm.2.2.2 j hj
        rw [e] at this
        exact (word_firm this).2.2 rfl
      · rcases List.mem_cons.1 e with e | e
        · cases e
        · exact hd.nl e
    have hfind : findM acc d.1 = none := by
      unfold findM
      rw [List.findIdx?_eq_none_iff]
      intro x hx
      rw [decide_eq_false_iff_not]
      intro e
      rw [List.map_append, List.nodup_append] at hn
      exact hn.2.2 x.1 (List.mem_map_of_mem hx) d.1 (by simp) e
    rw [fmtL_cons, split_line _ _ hnl, plM, line_back hd]
    simp only [hfind, Option.isSome_none, Bool.false_eq_true, if_false]
    simp only [List.length_cons] at hl
    rw [if_neg (by omega), plM_back l (i + 1) (acc ++ [d]) (fun x hx => h x (List.mem_cons_of_mem _ hx)) (by simp; omega) (by simpa using hn)]
    simp
end Go.Proofs.YtgcpinnnfoanjaaGreatDoor.Lb
/- CONTRACTS OF Go's LIBRARY (strings.Trim), laid at this translation by the kit's tool. -/
namespace Go.Proofs
open Go.Shelf
def Tryz.lays231_ren : Go.Shelf.Ren := ⟨fun | 231 => 103 | n => n, fun | 9 => 9 | 5 => 5 | 3 => 3 | 4 => 4 | n => n, fun | n => n⟩
theorem Tryz.lays231 : Go.Proofs.Lays.n231 Tryz.prog Tryz.lays231_ren := {
  mixed := by kernel_rfl
  f231 := Tryz.func103.trans (congrArg some (by kernel_rfl))
  t3 := Tryz.underlying3
  a3 := Tryz.isAgg3
  z3 := Tryz.sizeOf3
  v3 := Tryz.zeroValue3
  t4 := Tryz.underlying4
  a4 := Tryz.isAgg4
  z4 := Tryz.sizeOf4
  v4 := Tryz.zeroValue4
  t5 := Tryz.underlying5
  a5 := Tryz.isAgg5
  z5 := Tryz.sizeOf5
  v5 := Tryz.zeroValue5
  t9 := Tryz.underlying9
  a9 := Tryz.isAgg9
  z9 := Tryz.sizeOf9
  v9 := Tryz.zeroValue9 }
open Go.RowKit in
theorem Tryz.strings_trimLeftByte (s : ByteArray) (c : UInt8) (w : World) :
    Calls Tryz.prog 103 #[.string s, .int .u8 c.toNat] w fun e w' => e = .returned (.string ⟨(Lib.trimLeftB s.data.toList c).toArray⟩) ∧ w' = w := Any.strings_trimLeftByte Tryz.lays231 s c w
def Tryz.lays232_ren : Go.Shelf.Ren := ⟨fun | 232 => 104 | n => n, fun | 9 => 9 | 5 => 5 | 3 => 3 | 4 => 4 | n => n, fun | n => n⟩
theorem Tryz.lays232 : Go.Proofs.Lays.n232 Tryz.prog Tryz.lays232_ren := {
  mixed := by kernel_rfl
  f232 := Tryz.func104.trans (congrArg some (by kernel_rfl))
  t3 := Tryz.underlying3
  a3 := Tryz.isAgg3
  z3 := Tryz.sizeOf3
  v3 := Tryz.zeroValue3
  t4 := Tryz.underlying4
  a4 := Tryz.isAgg4
  z4 := Tryz.sizeOf4
  v4 := Tryz.zeroValue4
  t5 := Tryz.underlying5
  a5 := Tryz.isAgg5
  z5 := Tryz.sizeOf5
  v5 := Tryz.zeroValue5
  t9 := Tryz.underlying9
  a9 := Tryz.isAgg9
  z9 := Tryz.sizeOf9
  v9 := Tryz.zeroValue9 }
open Go.RowKit in
theorem Tryz.strings_trimRightByte (s : ByteArray) (c : UInt8) (w : World) (hs : s.size ≤ 9223372036854775807) :
    Calls Tryz.prog 104 #[.string s, .int .u8 c.toNat] w fun e w' => e = .returned (.string ⟨(Lib.trimRightB s.data.toList c).toArray⟩) ∧ w' = w := Any.strings_trimRightByte Tryz.lays232 s c w hs
def Tryz.lays160_ren : Go.Shelf.Ren := ⟨fun | 160 => 85 | 232 => 104 | 231 => 103 | 227 => 105 | 234 => 107 | 233 => 106 | 236 => 109 | 235 => 108 | 228 => 121 | 271 => 123 | 151 => 122 | 197 => 101 | 120 => 143 | 152 => 142 | 260 => 120 | 137 => 131 | 119 => 156 | 224 => 97 | 225 => 96 | 217 => 95 | 266 => 118 | n => n, fun | 9 => 9 | 4 => 4 | 3 => 3 | 5 => 5 | 117 => 147 | 116 => 146 | 0 => 0 | 124 => 150 | 21 => 21 | 105 => 142 | 46 => 141 | 119 => 134 | 139 => 175 | 138 => 174 | n => n, fun | 3 => 2 | 4 => 3 | n => n⟩
theorem Tryz.lays160 : Go.Proofs.Lays.n160 Tryz.prog Tryz.lays160_ren := {
  mixed := by kernel_rfl
  f119 := Tryz.func156.trans (congrArg some (by kernel_rfl))
  f120 := Tryz.func143.trans (congrArg some (by kernel_rfl))
  f137 := Tryz.func131.trans (congrArg some (by kernel_rfl))
  f151 := Tryz.func122.trans (congrArg some (by kernel_rfl))
  f152 := Tryz.func142.trans (congrArg some (by kernel_rfl))
  f160 := Tryz.func85.trans (congrArg some (by kernel_rfl))
  f197 := Tryz.func101.trans (congrArg some (by kernel_rfl))
  f217 := Tryz.func95.trans (congrArg some (by kernel_rfl))
  f224 := Tryz.func97.trans (congrArg some (by kernel_rfl))
  f225 := Tryz.func96.trans (congrArg some (by kernel_rfl))
  f227 := Tryz.func105.trans (congrArg some (by kernel_rfl))
  f228 := Tryz.func121.trans (congrArg some (by kernel_rfl))
  f231 := Tryz.func103.trans (congrArg some (by kernel_rfl))
  f232 := Tryz.func104.trans (congrArg some (by kernel_rfl))
  f233 := Tryz.func106.trans (congrArg some (by kernel_rfl))
  f234 := Tryz.func107.trans (congrArg some (by kernel_rfl))
  f235 := Tryz.func108.trans (congrArg some (by kernel_rfl))
  f236 := Tryz.func109.trans (congrArg some (by kernel_rfl))
  f260 := Tryz.func120.trans (congrArg some (by kernel_rfl))
  f266 := Tryz.func118.trans (congrArg some (by kernel_rfl))
  f271 := Tryz.func123.trans (congrArg some (by kernel_rfl))
  t0 := Tryz.underlying0
  a0 := Tryz.isAgg0
  z0 := Tryz.sizeOf0
  v0 := Tryz.zeroValue0
  t3 := Tryz.underlying3
  a3 := Tryz.isAgg3
  z3 := Tryz.sizeOf3
  v3 := Tryz.zeroValue3
  t4 := Tryz.underlying4
  a4 := Tryz.isAgg4
  z4 := Tryz.sizeOf4
  v4 := Tryz.zeroValue4
  t5 := Tryz.underlying5
  a5 := Tryz.isAgg5
  z5 := Tryz.sizeOf5
  v5 := Tryz.zeroValue5
  t9 := Tryz.underlying9
  a9 := Tryz.isAgg9
  z9 := Tryz.sizeOf9
  v9 := Tryz.zeroValue9
  t21 := Tryz.underlying21
  a21 := Tryz.isAgg21
  z21 := Tryz.sizeOf21
  v21 := Tryz.zeroValue21
  t46 := Tryz.underlying141
  a46 := Tryz.isAgg141
  z46 := Tryz.sizeOf141
  v46 := Tryz.zeroValue141
  t105 := Tryz.underlying142
  a105 := Tryz.isAgg142
  z105 := Tryz.sizeOf142
  v105 := Tryz.zeroValue142
  t116 := Tryz.underlying146
  a116 := Tryz.isAgg146
  z116 := Tryz.sizeOf146
  t117 := Tryz.underlying147
  a117 := Tryz.isAgg147
  z117 := Tryz.sizeOf147
  v117 := Tryz.zeroValue147
  t119 := Tryz.underlying134
  a119 := Tryz.isAgg134
  z119 := Tryz.sizeOf134
  t124 := Tryz.underlying150
  a124 := Tryz.isAgg150
  z124 := Tryz.sizeOf150
  v124 := Tryz.zeroValue150
  t138 := Tryz.underlying174
  a138 := Tryz.isAgg174
  z138 := Tryz.sizeOf174
  v138 := Tryz.zeroValue174
  t139 := Tryz.underlying175
  a139 := Tryz.isAgg175
  z139 := Tryz.sizeOf175
  v139 := Tryz.zeroValue175
  g3 := by kernel_rfl
  g4 := by kernel_rfl }
open Go.RowKit in
theorem Tryz.strings_Trim_one (s : ByteArray) (c : UInt8) (hc : c.toNat < 128) (w : World) (hs : s.size ≤ 9223372036854775807) :
    Calls Tryz.prog 85 #[.string s, .string ⟨#[c]⟩] w fun e w' => e = .returned (.string ⟨(Lib.trimB s.data.toList c).toArray⟩) ∧ (w' = w ∨ w' = w.drew) := Any.strings_Trim_one Tryz.lays160 s c hc w hs
end Go.Proofs
/-
  Format of a library.
-/
namespace Go.Proofs.YtgcpinnnfoanjaaGreatDoor
open Go.RowKit

theorem Lb.fmtL_take (l : List Lb.Def) {k : Nat} (hk : k < l.length) : Lb.fmtL (l.take (k + 1)) = Lb.fmtL (l.take k) ++ (l[k].1 ++ [32] ++ l[k].2 ++ [10]) := by
  unfold Lb.fmtL
  rw [List.take_succ_eq_append_getElem hk, List.map_append, List.flatten_append]
  simp
theorem Lb.fmtL_len (l : List Lb.Def) (hs : ∀ i (h : i < l.length), l[i].1.length ≤ 1000 ∧ l[i].2.length ≤ 1000) : ∀ k, k ≤ l.length → (Lb.fmtL (l.take k)).length ≤ 2002 * k
  | 0, _ => by simp [Lb.fmtL]
  | k + 1, h => by
    rw [Lb.fmtL_take l (by omega)]
    have ih := Lb.fmtL_len l hs k (by omega)
    obtain ⟨h1, h2⟩ := hs k (by omega)
    simp only [List.length_append, List.length_singleton]
    omega
set_option maxHeartbeats 8000000 in
set_option maxRecDepth 1000000 in
theorem format_any (l : List Lb.Def) (v : Value) (w : World) (hd : DfAt w l v) (hl : l.length ≤ 40) (hs : ∀ i (h : i < l.length), l[i].1.length ≤ 1000 ∧ l[i].2.length ≤ 1000) :
    Calls Tryz.prog 11 #[v] w fun e w' => e = .returned (.string ⟨(Lb.fmtL l).toArray⟩) ∧ Below w.heap.size w w' := by
  have hv := (zero_of_info infoBB2).1
  have HL := Lib.hid (Lb.fmtL_len l hs)
  have HS := Lib.hid hs
  obtain ⟨a, c, rfl, _, hvk⟩ := hd
  have HVK := Lib.hid hvk
  clear hvk hs
  go_enter Tryz.func11, Tryz.ntmps11
  go_wp2_with fail
  go_loopw [8] (fun i wr => ∃ k : Nat, i = .int .i64 k ∧ k ≤ l.length ∧ Hid (BW w.heap.size (Lb.fmtL (l.take k)) wr) ∧ Hid (Below w.heap.size w wr)) (fun i _ => l.length - (intOf i).toNat)
  case atStart => exact ⟨0, rfl, Nat.zero_le _, Lib.hid (BW.new w), Lib.hid (al_belowB w _)⟩
  case round =>
    obtain ⟨k, rfl, hkl, HW, HB⟩ := hrel
    by_cases hlt : k < l.length
    · obtain ⟨blk, off, rfl, hbl, d0, d1⟩ := HVK.out k hlt
      have e0 := (HB.out.cell (p := ⟨blk, off + k * 2, none⟩) hbl).trans d0
      have e1 := (HB.out.cell (p := ⟨blk, off + k * 2 + 1, none⟩) hbl).trans d1
      have i1 : (k : Int) < (l.length : Int) := by omega
      have i2 : (0 : Int) ≤ (k : Int) := by omega
      have lw := Nat.lt_of_lt_of_le hbl HB.out.size
      have hw1 : IntKind.i64.wrap ((k : Int) + 1) = (k : Int) + 1 := IntWalk.i64_in _ (by omega)
      have HF := Lib.hid (Lb.fmtL_take l hlt)
      have hlen := HL.out k hkl
      obtain ⟨h1, h2⟩ := HS.out k hlt
      obtain ⟨n1, hn1⟩ : ∃ n1, l[k].1 = n1 := ⟨_, rfl⟩
      obtain ⟨s1, hs1⟩ : ∃ s1, l[k].2 = s1 := ⟨_, rfl⟩
      rw [hn1] at e0 HF h1
      rw [hs1] at e1 HF h2
      have HWA := Lib.hid (HW.out.on (al_belowB wr (.cells #[.string ⟨n1.toArray⟩, .string ⟨s1.toArray⟩] 47)))
      have HBA := Lib.hid (HB.out.trans ((al_belowB wr (.cells #[.string ⟨n1.toArray⟩, .string ⟨s1.toArray⟩] 47)).mono HB.out.size))
      have x1 : ByteArray.mk n1.toArray ++ ByteArray.mk #[32] = ⟨(n1 ++ [32]).toArray⟩ := ba_app n1 [32]
      have x2 : ∀ W, (Op.stringOp .add ⟨(n1 ++ [32]).toArray⟩ ⟨s1.toArray⟩).run Tryz.prog W = .ok (.string ⟨(n1 ++ [32] ++ s1).toArray⟩) W := fun W => run_string_add_lists W (n1 ++ [32]) s1 (by rw [List.length_append, List.length_singleton]; omega) (by omega)
      have x3 : ∀ W, (Op.stringOp .add ⟨(n1 ++ [32] ++ s1).toArray⟩ ⟨#[10]⟩).run Tryz.prog W = .ok (.string ⟨(n1 ++ [32] ++ s1 ++ [10]).toArray⟩) W := fun W => run_string_add_lists W (n1 ++ [32] ++ s1) [10] (by simp only [List.length_append, List.length_singleton]; omega) (by simp)
      have hol : (n1 ++ [32] ++ s1 ++ [10]).length ≤ 10000000 := by simp only [List.length_append, List.length_singleton]; omega
      have ez : n1 ++ [32] ++ s1 ++ [10] = n1 ++ [32] ++ s1 ++ [10] := rfl
      obtain ⟨z3, hz3⟩ : ∃ z, n1 ++ [32] ++ s1 ++ [10] = z := ⟨_, rfl⟩
      obtain ⟨z2, hz2⟩ : ∃ z, n1 ++ [32] ++ s1 = z := ⟨_, rfl⟩
      obtain ⟨z1, hz1⟩ : ∃ z, n1 ++ [32] = z := ⟨_, rfl⟩
      rw [hz3] at HF hol x3
      rw [hz2] at x2 x3
      rw [hz1] at x1 x2
      clear d0 d1 hn1 hs1 ez hz1 hz2 hz3
      go_wp2_with fail
      refine (bstr_any w.heap.size (Lb.fmtL (l.take k)) z3 _ HWA.out (by omega) hol).mono ?_
      rintro e w2 ⟨rfl, hw2, hf2⟩
      have HW2 : Hid (BW w.heap.size (Lb.fmtL (l.take (k + 1))) w2) := Lib.hid (by rw [HF.out]; exact hw2)
      have HB2 := Lib.hid (HBA.out.trans hf2.bl)
      clear hw2 hf2 HW HB HWA HBA e0 e1
      go_wp2_with fail
      refine ⟨⟨k + 1, by go_num, by omega, HW2, HB2⟩, by simp [intOf]; omega⟩
    · have z1 : decide ((k : Int) < (l.length : Int)) = false := decide_eq_false (by omega)
      have y1 : decide (k < l.length) = false := decide_eq_false hlt
      have ht : l.take k = l := List.take_of_length_le (by omega)
      rw [ht] at HW
      clear ht
      go_wp2_with fail
      refine (bstring_any w.heap.size (Lb.fmtL l) _ HW.out).mono ?_
      rintro e w3 ⟨rfl, hb3⟩
      have HB3 := Lib.hid (HB.out.trans hb3)
      clear hb3
      go_wp2_with fail
      go_ret
      exact ⟨rfl, HB3.out⟩
end Go.Proofs.YtgcpinnnfoanjaaGreatDoor
/-
  Trim; a line of a library's text.
-/
namespace Go.Proofs.YtgcpinnnfoanjaaGreatDoor
open Go.RowKit

theorem infoAs : (Tryz.prog.info? 146).map (fun i => (i.zero, i.size)) = some (some (.agg (Array.replicate 256 (.bool false))), 256) := by kernel_rfl
set_option maxRecDepth 1000000 in
theorem ltrim_any (l : List UInt8) (w : World) (hs : l.length ≤ 140737488351232) :
    Calls Tryz.prog 64 #[.string ⟨l.toArray⟩] w fun e w' => e = .returned (.string ⟨(Lib.trimS l [32, 9]).toArray⟩) ∧ Below w.heap.size w w' := by
  have HT := Lib.hid (Any.strings_Trim_laid Tryz.lays160 infoAs ⟨l.toArray⟩ ⟨#[32, 9]⟩ w (by rw [ba_size]; omega) (by decide) (ascii_of_all (by decide)))
  go_enter Tryz.func64, Tryz.ntmps64
  go_wp2_with (go_at_call 85; refine HT.out.mono ?_; rintro e w1 ⟨rfl, hb⟩)
  go_ret
  exact ⟨rfl, hb⟩
theorem trimS_len (l cs : List UInt8) : (Lib.trimS l cs).length ≤ l.length := by
  unfold Lib.trimS Lib.trimRightS Lib.trimLeftS
  refine Nat.le_trans (List.dropWhile_sublist _).length_le ?_
  rw [List.length_reverse]
  refine Nat.le_trans (List.dropWhile_sublist _).length_le ?_
  rw [List.length_reverse]
  exact Nat.le_refl _
theorem undDf : (Tryz.prog.underlying 47).map (fun d => match d with | .struct _ => true | _ => false) = some true := by kernel_rfl
theorem undDf2 : ∃ fs, Tryz.prog.underlying 47 = some (.struct fs) := by
  cases hq : Tryz.prog.underlying 47 with
  | none => have := undDf; rw [hq] at this; cases this
  | some d =>
    have := undDf
    rw [hq] at this
    cases d <;> first | exact ⟨_, rfl⟩ | (simp at this)
theorem infoDf2 : (Tryz.prog.info? 47).map (·.size) = some 2 := by kernel_rfl
/-- A definition in a cell and two plain results. -/
theorem ret_df {fn : Func} {p t u : Tmp} (hfn : fn.results = #[.cell p 47, .tmp t, .tmp u]) {w : World} {cs : Array Value} {g : Nat} {ty : TypeId} (hg : w.heap[g]? = some (.cells cs ty (0, 0))) (hcs : cs.size = 2) {tmps : Array Value} {df : _} (hdf : df = []) (hp : tmps.getD p undef = .pointer (some ⟨g, 0, none⟩)) {post : Ending → World → Prop}
    (h : post (.returned (.tuple #[.agg cs, tmps.getD t undef, tmps.getD u undef])) w) : bodyPost Tryz.prog fn post Exit.ret { tmps := tmps, defers := df } w := by
  have hp' : tmps[p]?.getD undef = .pointer (some ⟨g, 0, none⟩) := by simpa using hp
  obtain ⟨fs, hd⟩ := undDf2
  have hl := run_loadVar_row (P := Tryz.prog) w g ty 47 cs (0, 0) (.struct fs) hg hd rfl (by rw [hcs]; exact infoDf2)
  exact bodyPost_ret (by simp [results, hfn, hp', asAddr, hl]) hdf h
/-- What a line gives. -/
def lineV : Except Nat (Option Lb.Def) → Value
  | .ok none => .tuple #[.agg #[.string ⟨#[]⟩, .string ⟨#[]⟩], .bool false, .int .i64 0]
  | .ok (some d) => .tuple #[.agg #[.string ⟨d.1.toArray⟩, .string ⟨d.2.toArray⟩], .bool true, .int .i64 0]
  | .error k => .tuple #[.agg #[.string ⟨#[]⟩, .string ⟨#[]⟩], .bool false, .int .i64 (k : Int)]
end Go.Proofs.YtgcpinnnfoanjaaGreatDoor
/-
  A line of a library's text: its walk.
-/
namespace Go.Proofs.YtgcpinnnfoanjaaGreatDoor
open Go.RowKit

def LineP (s : List UInt8) (w : World) (e : Ending) (w' : World) : Prop := e = .returned (lineV (Lb.lineM s)) ∧ Below w.heap.size w w'
theorem st_two {W : World} {g : Nat} {a b x y : Value} {ty : TypeId} (h : W.heap[g]? = some (.cells #[a, b] ty (0, 0))) : ((W.setCell ⟨g, 0, none⟩ x).setCell ⟨g, 1, none⟩ y).heap[g]? = some (.cells #[x, y] ty (0, 0)) :=
  heap_setCell_same _ g 1 _ _ _ (heap_setCell_same W g 0 _ _ _ h)
set_option maxHeartbeats 8000000 in
set_option maxRecDepth 1000000 in
theorem line_any (s : List UInt8) (w : World) (hk : Kinds w) (hs : s.length ≤ 1000000) : Calls Tryz.prog 41 #[.string ⟨s.toArray⟩] w (LineP s w) := by
  have hal := alb w (.cells #[.string ⟨#[]⟩, .string ⟨#[]⟩] 47)
  obtain ⟨t, ht⟩ : ∃ t, Lib.trimS s [32, 9] = t := ⟨_, rfl⟩
  have HT := Lib.hid (ltrim_any s (w.alloc (.cells #[.string ⟨#[]⟩, .string ⟨#[]⟩] 47)) (by omega))
  rw [ht] at HT
  have htl : t.length ≤ 1000000 := by rw [← ht]; exact Nat.le_trans (trimS_len _ _) hs
  obtain ⟨R, hR⟩ : ∃ R, Lb.lineM s = R := ⟨_, rfl⟩
  have HM : Hid (R = if t = [] ∨ t.head? = some 35 then .ok none else if nlen t = 0 ∨ t.length ≤ nlen t ∨ ¬ (t.drop (nlen t)).head? ∈ ([some 32, some 9] : List (Option UInt8)) then .error 1 else .ok (some (t.take (nlen t), Lib.trimS (t.drop (nlen t)) [32, 9]))) := Lib.hid (by rw [← hR]; unfold Lb.lineM; rw [show Lb.spL = [32, 9] from rfl, ht])
  have HEND : Hid (∀ r w', R = r → Below w.heap.size w w' → LineP s w (.returned (lineV r)) w') := Lib.hid (fun r w' e hb => ⟨by rw [hR, e], hb⟩)
  have HK := Lib.hid (hk.below hal)
  have HB0 := Lib.hid hal
  have HG0 : Hid (w.heap.size < (w.alloc (.cells #[.string ⟨#[]⟩, .string ⟨#[]⟩] 47)).heap.size) := Lib.hid (by simp)
  have HH0 := Lib.hid (heap_alloc_new w (.cells #[.string ⟨#[]⟩, .string ⟨#[]⟩] 47))
  clear hk hR ht hal
  go_enter Tryz.func41, Tryz.ntmps41
  go_wp2_with fail
  refine HT.out.mono ?_
  rintro e w1 ⟨rfl, hb⟩
  have HB1 := Lib.hid (HB0.out.trans (hb.mono HB0.out.size))
  have HK1 := Lib.hid (HK.out.below hb)
  have hh := (hb.block _ HG0.out).trans HH0.out
  have HH1 := Lib.hid hh
  have HG1 := Lib.hid (Nat.lt_of_lt_of_le HG0.out hb.size)
  have c0 : w1.cell? ⟨w.heap.size, 0, none⟩ = some (.string ⟨#[]⟩) := Lib.cell_of_heap hh 0
  have c1 : w1.cell? ⟨w.heap.size, 1, none⟩ = some (.string ⟨#[]⟩) := Lib.cell_of_heap hh 1
  have f0 : w1.frozen? ⟨w.heap.size, 0, none⟩ = false := Lib.frozen_of_heap hh 0
  have f1 : w1.frozen? ⟨w.heap.size, 1, none⟩ = false := Lib.frozen_of_heap hh 1
  have HBZ : Hid (∀ x y, Below w.heap.size w ((w1.setCell ⟨w.heap.size, 0, none⟩ x).setCell ⟨w.heap.size, 1, none⟩ y)) := Lib.hid (fun x y => (HB1.out.setCell (p := ⟨w.heap.size, 0, none⟩) (Nat.le_refl _) x).setCell (p := ⟨w.heap.size, 1, none⟩) (Nat.le_refl _) y)
  clear hb hh HT HB0 HK HG0 HH0
  rcases Nat.eq_zero_or_pos t.length with h0 | hpos
  · obtain rfl := List.length_eq_zero_iff.1 h0
    rw [if_pos (.inl rfl)] at HM
    clear h0 htl
    go_wp2_with fail
    exact ret_df (p := 2) (t := 3) (u := 4) rfl (st_two HH1.out) rfl rfl (by rfl) (HEND.out _ _ HM.out (HBZ.out _ _))
  · have e2 : t.isEmpty = false := by cases t with | nil => simp at hpos | cons a b => rfl
    have hne : t ≠ [] := by intro h; rw [h] at hpos; simp at hpos
    obtain ⟨x0, ⟨_, hx0⟩, hc0, hb0⟩ := byte_at t 0 hpos
    by_cases h35 : x0 = 35
    · subst h35
      have hhd : t.head? = some 35 := by
        cases t with
        | nil => simp at hpos
        | cons a b => simp only [List.getElem_cons_zero] at hc0; simp only [List.head?_cons, Option.some.injEq]; exact UInt8.toNat_inj.1 hc0
      rw [if_pos (.inr hhd)] at HM
      clear hhd hne hc0
      go_wp2_with fail
      exact ret_df (p := 2) (t := 3) (u := 4) rfl (st_two HH1.out) rfl rfl (by rfl) (HEND.out _ _ HM.out (HBZ.out _ _))
    · have hhd : t.head? = some 35 ↔ x0 = 35 := by
        cases t with
        | nil => simp at hpos
        | cons a b =>
          simp only [List.getElem_cons_zero] at hc0
          simp only [List.head?_cons, Option.some.injEq]
          exact ⟨fun h => by rw [← hc0, h]; rfl, fun h => UInt8.toNat_inj.1 (hc0.trans h)⟩
      rw [if_neg (by rintro (h | h); exact hne h; exact h35 (hhd.1 h))] at HM
      have z0 : ((x0 : Int) == 35) = false := by rw [beq_eq_false_iff_ne]; omega
      have HNM := Lib.hid (lname_any t w1 HK1.out (by omega))
      have hnle := nlen_le t
      obtain ⟨n, hn⟩ : ∃ n, nlen t = n := ⟨_, rfl⟩
      rw [hn] at HM HNM hnle
      clear hhd hne hc0 h35 hn
      rcases Nat.eq_zero_or_pos n with hn0 | hn0
      · subst hn0
        rw [if_pos (.inl rfl)] at HM
        go_wp2_with fail
        refine HNM.out.mono ?_
        rintro e w2 ⟨rfl, rfl⟩
        go_wp2_with fail
        exact ret_df (p := 2) (t := 3) (u := 4) rfl (st_two HH1.out) rfl rfl (by rfl) (HEND.out _ _ HM.out (HBZ.out _ _))
      · have z1 : ((n : Int) == 0) = false := by rw [beq_eq_false_iff_ne]; omega
        rcases Nat.lt_or_ge n t.length with hlt | hge
        · have z2 : decide ((t.length : Int) ≤ (n : Int)) = false := decide_eq_false (by omega)
          have y2 : decide (t.length ≤ n) = false := decide_eq_false (by omega)
          obtain ⟨xn, ⟨_, hxn⟩, hcn, hbn⟩ := byte_at t n hlt
          have HSP := Lib.hid (space_any xn w1 hbn HK1.out)
          have i1 : (n : Int) < (t.length : Int) := by omega
          have i2 : (0 : Int) ≤ (n : Int) := by omega
          have hsp : (t.drop n).head? ∈ ([some 32, some 9] : List (Option UInt8)) ↔ Asc.isSpace xn = true := by
            rw [List.head?_drop, List.getElem?_eq_getElem hlt]
            simp only [List.mem_cons, Option.some.injEq, List.not_mem_nil, or_false]
            unfold Asc.isSpace
            rw [← hcn]
            constructor
            · rintro (h | h) <;> rw [h] <;> decide
            · intro h
              simp at h
              rcases h with h | h
              · exact .inl (UInt8.toNat_inj.1 h)
              · exact .inr (UInt8.toNat_inj.1 h)
          clear hcn
          cases hs2 : Asc.isSpace xn with
          | false =>
            rw [if_pos (.inr (.inr (fun h => by rw [hsp.1 h] at hs2; cases hs2)))] at HM
            rw [hs2] at HSP
            clear hs2 hsp
            go_wp2_with fail
            refine HNM.out.mono ?_
            rintro e w2 ⟨rfl, rfl⟩
            go_wp2_with fail
            refine HSP.out.mono ?_
            rintro e w2 ⟨rfl, rfl⟩
            go_wp2_with fail
            exact ret_df (p := 2) (t := 3) (u := 4) rfl (st_two HH1.out) rfl rfl (by rfl) (HEND.out _ _ HM.out (HBZ.out _ _))
          | true =>
            rw [if_neg (by rintro (h | h | h); omega; omega; exact h (hsp.2 hs2))] at HM
            rw [hs2] at HSP
            clear hs2 hsp
            have x1 : (ByteArray.mk t.toArray).extract 0 n = ⟨(t.take n).toArray⟩ := by have := Asc.extract_seg t 0 n; unfold Asc.seg at this; simpa using this
            have x2 : (ByteArray.mk t.toArray).extract n t.length = ⟨(t.drop n).toArray⟩ := ext_drop t n
            have i3 : (n : Int) ≤ (t.length : Int) := by omega
            have HTR := Lib.hid (ltrim_any (t.drop n) w1.drew (by rw [List.length_drop]; omega))
            obtain ⟨r2, hr2⟩ : ∃ r2, Lib.trimS (t.drop n) [32, 9] = r2 := ⟨_, rfl⟩
            obtain ⟨t1, ht1⟩ : ∃ t1, t.take n = t1 := ⟨_, rfl⟩
            rw [hr2] at HM HTR
            rw [ht1] at HM x1
            obtain ⟨t2, ht2⟩ : ∃ t2, t.drop n = t2 := ⟨_, rfl⟩
            rw [ht2] at HTR x2
            clear hr2 ht1 ht2
            go_wp2_with fail
            refine HNM.out.mono ?_
            rintro e w2 ⟨rfl, rfl⟩
            go_wp2_with fail
            refine HSP.out.mono ?_
            rintro e w2 ⟨rfl, rfl⟩
            go_wp2_with fail
            go_region_with (first
              | (go_at_call 64; refine HTR.out.mono ?_; rintro e w3 ⟨rfl, hb3⟩; have hh3 := (hb3.block _ HG1.out).trans HH1.out; have HH3 := Lib.hid hh3; have d0 : w3.cell? ⟨w.heap.size, 0, none⟩ = some (.string ⟨#[]⟩) := Lib.cell_of_heap hh3 0; have d1 : w3.cell? ⟨w.heap.size, 1, none⟩ = some (.string ⟨#[]⟩) := Lib.cell_of_heap hh3 1; have e0 : w3.frozen? ⟨w.heap.size, 0, none⟩ = false := Lib.frozen_of_heap hh3 0; have e1 : w3.frozen? ⟨w.heap.size, 1, none⟩ = false := Lib.frozen_of_heap hh3 1; have HB3 := Lib.hid (HB1.out.trans (((Below.refl _ w1).drew.trans hb3).mono HB1.out.size)); clear hb3 hh3))
            all_goals (go_wp2_with fail)
            all_goals exact ret_df (p := 2) (t := 3) (u := 4) rfl (st_two HH3.out) rfl rfl (by rfl) (HEND.out _ _ HM.out ((HB3.out.setCell (p := ⟨w.heap.size, 0, none⟩) (Nat.le_refl _) _).setCell (p := ⟨w.heap.size, 1, none⟩) (Nat.le_refl _) _))
        · have z2 : decide ((t.length : Int) ≤ (n : Int)) = true := decide_eq_true (by omega)
          have y2 : decide (t.length ≤ n) = true := decide_eq_true (by omega)
          rw [if_pos (.inr (.inl hge))] at HM
          go_wp2_with fail
          refine HNM.out.mono ?_
          rintro e w2 ⟨rfl, rfl⟩
          go_wp2_with fail
          exact ret_df (p := 2) (t := 3) (u := 4) rfl (st_two HH1.out) rfl rfl (by rfl) (HEND.out _ _ HM.out (HBZ.out _ _))
end Go.Proofs.YtgcpinnnfoanjaaGreatDoor
/-
  The lines of a library's text.
-/
namespace Go.Proofs.YtgcpinnnfoanjaaGreatDoor
open Go.RowKit

theorem split_any (s : List UInt8) (w : World) (h : ML w) (hl : s.length ≤ 100000) : Calls Tryz.prog 40 #[.string ⟨s.toArray⟩, .string ⟨#[10]⟩] w fun e w' =>
    e = .returned (.slice (some ⟨w.heap.size, 0, none⟩) (Lib.split s [10]).length (Lib.split s [10]).length) ∧ w.alloc (.cells ((Lib.split s [10]).map fun p => Value.string ⟨p.toArray⟩).toArray 9) = w' := by
  obtain ⟨_, m, hm⟩ := h
  have hd := Lib.splitB_data ⟨#[10]⟩ 0 (Lib.countB ⟨s.toArray⟩ ⟨#[10]⟩) ⟨s.toArray⟩
  have hc : Lib.countB ⟨s.toArray⟩ ⟨#[10]⟩ = Lib.count s [10] := rfl
  have hs : (Lib.splitB ⟨#[10]⟩ 0 (Lib.countB ⟨s.toArray⟩ ⟨#[10]⟩) ⟨s.toArray⟩).map (·.data.toList) = Lib.split s [10] := by rw [hd, hc]; rfl
  have hlen := Lib.splitB_all ⟨#[10]⟩ (by decide) 0 _ ⟨s.toArray⟩ rfl
  have hl2 : (Lib.split s [10]).length = Lib.countB ⟨s.toArray⟩ ⟨#[10]⟩ + 1 := by rw [← hs, List.length_map]; exact hlen
  refine (Tryz.strings_Split ⟨s.toArray⟩ ⟨#[10]⟩ m w (by rw [ba_size]; omega) hm (by decide)).mono ?_
  rintro e w' ⟨h1, h2⟩
  refine ⟨by rw [h1, hl2], ?_⟩
  rw [h2, ← hs, List.map_map]
  rfl
end Go.Proofs.YtgcpinnnfoanjaaGreatDoor
/-
  Same of the reference: definitions in two places.
-/
namespace Go.Proofs.YtgcpinnnfoanjaaGreatDoor
open Go.RowKit

set_option maxHeartbeats 8000000 in
set_option maxRecDepth 1000000 in
theorem lsame_any (l : List Lb.Def) (v v' : Value) (w : World) (hd : DfAt w l v) (hd' : DfAt w l v') :
    Calls Tryz.prog 25 #[v, v'] w fun e w' => e = .returned (.bool true) ∧ Below w.heap.size w w' := by
  obtain ⟨a, c, rfl, hl, hvk⟩ := hd
  obtain ⟨a', c', rfl, _, hvk'⟩ := hd'
  have HV := Lib.hid hvk
  have HV' := Lib.hid hvk'
  clear hvk hvk'
  go_enter Tryz.func25, Tryz.ntmps25
  go_wp2_with fail
  go_loopw [5] (fun i wr => ∃ k : Nat, i = .int .i64 k ∧ k ≤ l.length ∧ Hid (Below w.heap.size w wr)) (fun i _ => l.length - (intOf i).toNat)
  case atStart => exact ⟨0, rfl, Nat.zero_le _, Lib.hid (Below.refl _ _)⟩
  case round =>
    obtain ⟨k, rfl, hkl, HB⟩ := hrel
    by_cases hlt : k < l.length
    · obtain ⟨blk, off, rfl, hbl, d0, d1⟩ := HV.out k hlt
      obtain ⟨blk', off', rfl, hbl', d0', d1'⟩ := HV'.out k hlt
      have e0 := (HB.out.cell (p := ⟨blk, off + k * 2, none⟩) hbl).trans d0
      have e1 := (HB.out.cell (p := ⟨blk, off + k * 2 + 1, none⟩) hbl).trans d1
      have e0' := (HB.out.cell (p := ⟨blk', off' + k * 2, none⟩) hbl').trans d0'
      have e1' := (HB.out.cell (p := ⟨blk', off' + k * 2 + 1, none⟩) hbl').trans d1'
      have i1 : (k : Int) < (l.length : Int) := by omega
      have i2 : (0 : Int) ≤ (k : Int) := by omega
      have hw1 : IntKind.i64.wrap ((k : Int) + 1) = (k : Int) + 1 := IntWalk.i64_in _ (by omega)
      obtain ⟨n1, hn1⟩ : ∃ n1, l[k].1 = n1 := ⟨_, rfl⟩
      obtain ⟨s1, hs1⟩ : ∃ s1, l[k].2 = s1 := ⟨_, rfl⟩
      rw [hn1] at e0 e0'
      rw [hs1] at e1 e1'
      clear d0 d1 d0' d1' hn1 hs1
      go_wp2_with fail
      go_quiet (fail)
      have HB2 : Hid (Below w.heap.size w (wr.drewN nq)) := Lib.hid (below_drewN HB.out nq)
      go_wp2_with fail
      refine ⟨⟨k + 1, by go_num, by omega, HB2⟩, by simp [intOf]; omega⟩
    · have z1 : decide ((k : Int) < (l.length : Int)) = false := decide_eq_false (by omega)
      have y1 : decide (k < l.length) = false := decide_eq_false hlt
      go_wp2_with fail
      go_ret
      exact ⟨rfl, HB.out⟩
end Go.Proofs.YtgcpinnnfoanjaaGreatDoor

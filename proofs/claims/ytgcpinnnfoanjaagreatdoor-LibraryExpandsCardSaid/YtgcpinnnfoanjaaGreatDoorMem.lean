/-
  BYTES AND STRINGS IN MEMORY: a slice of bytes, '[]byte(s)', 'string(b)', a slice of strings.
-/
import Derived.Test.YtgcpinnnfoanjaaGreatDoorStr
import Derived.Test.YtgcpinnnfoanjaaGreatDoorOwn
import Derived.Lib.Builder
import Derived.Lib.AppendStr
import Derived.Lib.ConvBytes
import Derived.Laws.IdiomStrings
import Derived.Laws.BytesArg
import Derived.Laws.AppendOwnNone
import Derived.OwnWalk
namespace Go.Proofs.YtgcpinnnfoanjaaGreatDoor
open Go.RowKit

theorem info5 : (Tryz.prog.info? 5).map (fun i => (i.zero, i.size, i.bytes)) = some (some (.int .u8 0), 1, 1) := by kernel_rfl
/-- The cells of some bytes. -/
def BA (w : World) (blk off : Nat) (bs : List UInt8) : Prop := ∀ i, i < bs.length → w.cell? ⟨blk, off + i, none⟩ = some (.int .u8 (Asc.at_ bs i : Nat))
theorem BA.drop {w : World} {blk off : Nat} {bs : List UInt8} (h : BA w blk off bs) (k : Nat) : BA w blk (off + k) (bs.drop k) := fun i hi => by
  rw [List.length_drop] at hi
  have := h (k + i) (by omega)
  have e : Asc.at_ (bs.drop k) i = Asc.at_ bs (k + i) := by unfold Asc.at_; rw [List.getElem?_drop]
  rw [e, show off + k + i = off + (k + i) by omega]
  exact this
theorem BA.below {w w' : World} {blk off : Nat} {bs : List UInt8} (h : BA w blk off bs) (hb : ∀ i, i < bs.length → w'.cell? ⟨blk, off + i, none⟩ = w.cell? ⟨blk, off + i, none⟩) : BA w' blk off bs := fun i hi => (hb i hi).trans (h i hi)

/-- '[]byte(s)': a new row that holds the bytes. -/
structure NewBytes (w : World) (l : List UInt8) (cap : Nat) (w' : World) : Prop where
  run : (convert 9 22 (.string ⟨l.toArray⟩)).run Tryz.prog w = .ok (.slice (some ⟨w.heap.size, 0, none⟩) l.length cap) w'
  below : Below w.heap.size w w'
  size : w'.heap.size = w.heap.size + 1
  cells : BA w' w.heap.size 0 l
  room : l.length ≤ cap
  free : ∀ i, i < cap → w'.frozen? ⟨w.heap.size, i, none⟩ = false
theorem conv_bytes (w : World) (l : List UInt8) : ∃ cap w', NewBytes w l cap w' := by
  have hr := Lib.run_convert_string_bytes (P := Tryz.prog) w 9 22 5 ⟨l.toArray⟩ Tryz.underlying9 Tryz.underlying22 Tryz.underlying5
  have hn := Lib.bytesWorld_at_new w 5 ⟨l.toArray⟩
  have hsz : (Lib.bytesWorld w 5 ⟨l.toArray⟩).heap.size = w.heap.size + 1 := by
    simp [Lib.bytesWorld, World.freeze, World.alloc, World.drew, -World.alloc_eq, -World.drew_eq]
  have hl : (ByteArray.mk l.toArray).size = l.length := by simp [ByteArray.size]
  have hcl : (Lib.bytesCells w 5 ⟨l.toArray⟩).size = grownCap w l.length 0 5 := by
    have := grownCap_ge w l.length 0 5
    simp [Lib.bytesCells, hl]; omega
  refine ⟨grownCap w l.length 0 5, Lib.bytesWorld w 5 ⟨l.toArray⟩, ⟨by rw [hr, hl], ⟨rfl, rfl, rfl, by omega, fun k hk => Lib.bytesWorld_at_old _ _ _ _ hk⟩, hsz, fun i hi => ?_, grownCap_ge _ _ _ _, fun i hi => ?_⟩⟩
  · rw [Lib.cell_of_heap hn]
    rw [Asc.at_of hi]
    simp [Lib.bytesCells, Array.getElem?_append, hi]
  · unfold World.frozen?
    rw [hn, hcl]
    simp
    omega
theorem BA.at {w : World} {blk : Nat} {bs : List UInt8} (h : BA w blk 0 bs) (i : Nat) (hi : i < bs.length) : w.cell? ⟨blk, i, none⟩ = some (.int .u8 (Asc.at_ bs i : Nat)) := by
  have := h i hi
  rwa [Nat.zero_add] at this

/-- 'string(b)' of a row of bytes of the call's own. -/
theorem conv_own {w : World} {B : Nat} {v : Value} {out : List UInt8} (h : w.ownsRow B 5 1 v out.length (Lib.byteCells out)) :
    (convert 22 9 v).run Tryz.prog w = .ok (.string ⟨out.toArray⟩) w := by
  obtain ⟨_, ⟨rfl, h0⟩ | ⟨g, cap, cur, rfl, _, hg, hn, _, hsz, htk⟩⟩ := h
  · obtain rfl := List.length_eq_zero_iff.1 h0
    exact run_convert_bytes_nil w 22 5 Tryz.underlying22 Tryz.underlying5 0 0 9 Tryz.underlying9
  · refine run_convert_bytes_back w 22 9 5 ⟨g, 0, none⟩ cap out Tryz.underlying22 Tryz.underlying5 Tryz.underlying9 fun j hj => ?_
    rw [show (⟨g, 0, none⟩ : Addr).add j = ⟨g, j, none⟩ by simp [Addr.add]; exact fun e => e.symm, Lib.cell_of_heap hg]
    have e : (cur.toList.take (out.length * 1))[j]? = (Lib.byteCells out)[j]? := by rw [htk]
    rw [List.getElem?_take_of_lt (by omega)] at e
    simp only [Array.getElem?_toList] at e
    rw [e]
    unfold Lib.byteCells
    simp [hj]

theorem one_of (l : List UInt8) : ∀ u ∈ Lib.byteCells l, u.oneCell' = true := by
  intro u hu
  unfold Lib.byteCells at hu
  obtain ⟨x, _, rfl⟩ := List.mem_map.1 hu
  rfl

theorem addp (b o i : Nat) : (⟨b, o, none⟩ : Addr).add i = ⟨b, o + i, none⟩ := by unfold Addr.add; split <;> simp_all
/-- A slice of bytes that reads as a list: nil, or cells. -/
def BS (w : World) (v : Value) (bs : List UInt8) : Prop :=
  ∃ a cap, v = .slice a bs.length cap ∧ bs.length ≤ cap ∧ (0 < bs.length → ∃ blk off, a = some ⟨blk, off, none⟩ ∧ blk < w.heap.size ∧ BA w blk off bs)
theorem BS.below {w w' : World} {v : Value} {bs : List UInt8} (h : BS w v bs) (hb : Below w.heap.size w w') : BS w' v bs := by
  obtain ⟨a, cap, rfl, hc, h⟩ := h
  refine ⟨a, cap, rfl, hc, fun h0 => ?_⟩
  obtain ⟨blk, off, rfl, hl, hba⟩ := h h0
  exact ⟨blk, off, rfl, Nat.lt_of_lt_of_le hl hb.size, hba.below fun i _ => hb.cell (p := ⟨blk, off + i, none⟩) hl⟩

/-- A slice of bytes as it came in: nil, or an address with its cells. -/
def BSI (w : World) (v : Value) (bs : List UInt8) : Prop :=
  (v = .slice none 0 0 ∧ bs = []) ∨ ∃ ad cap, v = .slice (some ad) bs.length cap ∧ bs.length ≤ cap ∧ ∀ j u, (Lib.byteCells bs)[j]? = some u → w.cell? (ad.add j) = some u
theorem byteCells_at {bs : List UInt8} {i : Nat} (h : i < bs.length) : (Lib.byteCells bs)[i]? = some (.int .u8 (Asc.at_ bs i : Nat)) := by
  unfold Lib.byteCells
  rw [Asc.at_of h]
  simp [h]
theorem BSI.bs {w : World} {v : Value} {bs : List UInt8} (h : BSI w v bs) : BS w v bs := by
  rcases h with ⟨rfl, rfl⟩ | ⟨ad, cap, rfl, hc, h⟩
  · exact ⟨none, 0, rfl, Nat.le_refl _, fun h => by simp at h⟩
  · refine ⟨some ad, cap, rfl, hc, fun h0 => ?_⟩
    have h1 := h 0 _ (byteCells_at h0)
    have hp : ad = ⟨ad.block, ad.off, none⟩ := by
      have e0 : ad.add 0 = ad := by unfold Addr.add; simp
      rw [e0] at h1
      have := World.cell?_spot h1
      cases ad
      simp_all
    refine ⟨ad.block, ad.off, congrArg some hp, ?_, fun i hi => ?_⟩
    · have := World.block_lt_of_cell? w _ h1
      rw [hp] at this
      simpa [Addr.add] using this
    · have := h i _ (byteCells_at hi)
      rw [hp, addp] at this
      exact this
theorem BSI.below {w w' : World} {v : Value} {bs : List UInt8} (h : BSI w v bs) (hb : Below w.heap.size w w') : BSI w' v bs := by
  rcases h with ⟨rfl, rfl⟩ | ⟨ad, cap, rfl, hc, h⟩
  · exact .inl ⟨rfl, rfl⟩
  · exact .inr ⟨ad, cap, rfl, hc, fun j u hj => (hb.cell (World.block_lt_of_cell? w _ (h j u hj))).trans (h j u hj)⟩

theorem wpList_append_bs {w : World} {ops : Array Oper} {rest : List Oper} {o : Oper} {a : Act} {Q : Exit → Act → World → Prop} (hgd : o.guard = none) (s x : Operand)
    (ho : o.op = .call { callee := .builtin .append, args := #[s, x], argTypes := #[22, 22] }) (B : Nat)
    (v : Value) (n : Nat) (xs : List Value) (hs : a.eval s = v) (hown : w.ownsRow B 5 1 v n xs) (vb : Value) (bs : List UInt8) (hx : a.eval x = vb) (hbs : BSI w vb bs)
    (hn : n + bs.length ≤ 140737488355328) (hB : B ≤ w.heap.size)
    (h : ∀ v' w', w'.ownsRow B 5 1 v' (n + bs.length) (xs ++ Lib.byteCells bs) → w.grownBy w' v.ownBlock → wpList Tryz.prog ops Q rest (a.put o.dst v') w') : wpList Tryz.prog ops Q (o :: rest) a w := by
  obtain ⟨i0, hi, hz0, hz1, hz2⟩ := info_parts info5
  rcases hbs with ⟨rfl, rfl⟩ | ⟨ad, cap, rfl, hc, hcell⟩
  · refine wpList_append_own_none hgd s x 22 ho B 5 i0 1 Tryz.underlying22 hi v n xs hs hown hx (h v w ?_ (World.grownBy.refl _ _))
    simpa [Lib.byteCells] using hown
  · refine wpList_append_own w hgd s x 22 ho B 5 i0 (.int .u8 0) 1 1 Tryz.underlying22 hi hz0 hz1 hz2 rfl (by decide) v n xs hs hown ad bs.length cap (Lib.byteCells bs) hx (by rw [Lib.byteCells_length, Nat.mul_one]) hcell (one_of bs) (by unfold maxLen; omega) (by omega) hB ?_
    intro v' w' h1 h2 _
    exact h v' w' h1 h2

/-- A row of bytes of the call's own reads as a slice of bytes. -/
theorem bsi_own {w : World} {B : Nat} {v : Value} {out : List UInt8} (h : w.ownsRow B 5 1 v out.length (Lib.byteCells out)) : BSI w v out := by
  obtain ⟨hl, ⟨rfl, h0⟩ | ⟨g, cap, cur, rfl, _, hg, hn, _, hsz, htk⟩⟩ := h
  · exact .inl ⟨rfl, List.length_eq_zero_iff.1 h0⟩
  · refine .inr ⟨⟨g, 0, none⟩, cap, rfl, hn, fun j u hj => ?_⟩
    have hj2 : j < out.length := by
      have := (List.getElem?_eq_some_iff.1 hj).1
      rwa [Lib.byteCells_length] at this
    rw [show (⟨g, 0, none⟩ : Addr).add j = ⟨g, j, none⟩ by simp [Addr.add]; exact fun e => e.symm, Lib.cell_of_heap hg]
    have e : (cur.toList.take (out.length * 1))[j]? = (Lib.byteCells out)[j]? := by rw [htk]
    rw [List.getElem?_take_of_lt (by omega)] at e
    simp only [Array.getElem?_toList] at e
    rw [e]
    exact hj


theorem infoStr : (Tryz.prog.info? 9).map (fun i => (i.zero, i.size, i.bytes)) = some (some (.string ⟨#[]⟩), 1, 16) := by kernel_rfl

/-- A slice of strings that reads as a list. -/
def SS (w : World) (v : Value) (fs : List (List UInt8)) : Prop :=
  ∃ a cap, v = .slice a fs.length cap ∧ (0 < fs.length → ∃ g, a = some ⟨g, 0, none⟩ ∧ g < w.heap.size ∧ ∀ i (hi : i < fs.length), w.cell? ⟨g, i, none⟩ = some (.string ⟨(fs[i]).toArray⟩))
theorem SS.below {w w' : World} {v : Value} {fs : List (List UInt8)} (h : SS w v fs) (hb : Below w.heap.size w w') : SS w' v fs := by
  obtain ⟨a, cap, rfl, h⟩ := h
  refine ⟨a, cap, rfl, fun h0 => ?_⟩
  obtain ⟨g, rfl, hl, hc⟩ := h h0
  exact ⟨g, rfl, Nat.lt_of_lt_of_le hl hb.size, fun i hi => (hb.cell (p := ⟨g, i, none⟩) hl).trans (hc i hi)⟩
def strCellsL (fs : List (List UInt8)) : List Value := fs.map fun f => Value.string ⟨f.toArray⟩
theorem ss_own {w : World} {B : Nat} {v : Value} {fs : List (List UInt8)} (h : w.ownsRow B 9 1 v fs.length (strCellsL fs)) : SS w v fs := by
  obtain ⟨hl, ⟨rfl, h0⟩ | ⟨g, cap, cur, rfl, _, hg, hn, _, hsz, htk⟩⟩ := h
  · exact ⟨none, 0, by rw [h0], fun h => by omega⟩
  · refine ⟨_, cap, rfl, fun _ => ⟨g, rfl, ?_, fun i hi => ?_⟩⟩
    · rcases Nat.lt_or_ge g w.heap.size with c | c
      · exact c
      · rw [Array.getElem?_eq_none c] at hg; cases hg
    · rw [Lib.cell_of_heap hg]
      have e : (cur.toList.take (fs.length * 1))[i]? = (strCellsL fs)[i]? := by rw [htk]
      rw [List.getElem?_take_of_lt (by omega)] at e
      simp only [Array.getElem?_toList] at e
      rw [e]
      unfold strCellsL
      simp [hi]


end Go.Proofs.YtgcpinnnfoanjaaGreatDoor

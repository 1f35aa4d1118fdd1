/-
  The list of choices hands out an event or a skip.
-/
import Derived.Test.YtmcnhphmglmmeabDoorExtI2
import Derived.Deep.DeepCutAuto
namespace Go.Proofs.YtmcnhphmglmmeabDoor
open Go.RowKit

def ruleO : Obj := .cells #[.string ⟨#[115, 97, 109, 112, 108, 101]⟩, .string ⟨#[100, 114, 111, 112]⟩, .string ⟨#[116, 111, 111, 45, 108, 111, 110, 103]⟩] 9
theorem rule_at (k : Nat) (hk : k < 3) : ∃ x : List UInt8, x.length ≤ 10 ∧ (∀ W : World, (W.alloc ruleO).cell? ⟨W.heap.size, k, none⟩ = some (.string ⟨x.toArray⟩)) ∧ (∀ h : k < ([Value.string ⟨#[115, 97, 109, 112, 108, 101]⟩, .string ⟨#[100, 114, 111, 112]⟩, .string ⟨#[116, 111, 111, 45, 108, 111, 110, 103]⟩] : List Value).length, ([Value.string ⟨#[115, 97, 109, 112, 108, 101]⟩, .string ⟨#[100, 114, 111, 112]⟩, .string ⟨#[116, 111, 111, 45, 108, 111, 110, 103]⟩] : List Value)[k]'h = .string ⟨x.toArray⟩) := by
  match k, hk with
  | 0, _ => exact ⟨[115, 97, 109, 112, 108, 101], by decide, fun W => by simp [go_sem, ruleO], fun _ => rfl⟩
  | 1, _ => exact ⟨[100, 114, 111, 112], by decide, fun W => by simp [go_sem, ruleO], fun _ => rfl⟩
  | 2, _ => exact ⟨[116, 111, 111, 45, 108, 111, 110, 103], by decide, fun W => by simp [go_sem, ruleO], fun _ => rfl⟩

def traceO : Obj := .cells #[.string ⟨#[116, 49]⟩, .string ⟨#[116, 50]⟩, .string ⟨#[]⟩, .string ⟨#[49, 58, 50, 58, 48]⟩] 9
theorem trace_at (k : Nat) (hk : k < 4) : ∃ x : List UInt8, x.length ≤ 10 ∧ (∀ W : World, (W.alloc traceO).cell? ⟨W.heap.size, k, none⟩ = some (.string ⟨x.toArray⟩)) ∧ (∀ h : k < ([Value.string ⟨#[116, 49]⟩, .string ⟨#[116, 50]⟩, .string ⟨#[]⟩, .string ⟨#[49, 58, 50, 58, 48]⟩] : List Value).length, ([Value.string ⟨#[116, 49]⟩, .string ⟨#[116, 50]⟩, .string ⟨#[]⟩, .string ⟨#[49, 58, 50, 58, 48]⟩] : List Value)[k]'h = .string ⟨x.toArray⟩) := by
  match k, hk with
  | 0, _ => exact ⟨[116, 49], by decide, fun W => by simp [go_sem, traceO], fun _ => rfl⟩
  | 1, _ => exact ⟨[116, 50], by decide, fun W => by simp [go_sem, traceO], fun _ => rfl⟩
  | 2, _ => exact ⟨[], by decide, fun W => by simp [go_sem, traceO], fun _ => rfl⟩
  | 3, _ => exact ⟨[49, 58, 50, 58, 48], by decide, fun W => by simp [go_sem, traceO], fun _ => rfl⟩
def streamO : Obj := .cells #[.string ⟨#[109, 97, 105, 110]⟩, .string ⟨#[100, 101, 98, 117, 103]⟩] 9
theorem stream_at (k : Nat) (hk : k < 2) : ∃ x : List UInt8, x.length ≤ 10 ∧ (∀ W : World, (W.alloc streamO).cell? ⟨W.heap.size, k, none⟩ = some (.string ⟨x.toArray⟩)) ∧ (∀ h : k < ([Value.string ⟨#[109, 97, 105, 110]⟩, .string ⟨#[100, 101, 98, 117, 103]⟩] : List Value).length, ([Value.string ⟨#[109, 97, 105, 110]⟩, .string ⟨#[100, 101, 98, 117, 103]⟩] : List Value)[k]'h = .string ⟨x.toArray⟩) := by
  match k, hk with
  | 0, _ => exact ⟨[109, 97, 105, 110], by decide, fun W => by simp [go_sem, streamO], fun _ => rfl⟩
  | 1, _ => exact ⟨[100, 101, 98, 117, 103], by decide, fun W => by simp [go_sem, streamO], fun _ => rfl⟩
theorem IV.two {w W : World} {g : Nat} {tz tm wt : Int} {la : Option Addr} {n lc : Nat} (h : IV w g (evE tz tm wt la n lc [] [] none 0 0) W) (hg : g < w.heap.size) (tr st : List UInt8) :
    IV w g (evE tz tm wt la n lc tr st none 0 0) ((W.setCell ⟨w.heap.size + 1, 7, none⟩ (.string ⟨tr.toArray⟩)).setCell ⟨w.heap.size + 1, 8, none⟩ (.string ⟨st.toArray⟩)) :=
  ((h.set hg 7 (by omega) _).set hg 8 (by omega) _).cong fun i hi => by
    match i, hi with
    | 0, _ => rfl
    | 1, _ => rfl
    | 2, _ => rfl
    | 3, _ => rfl
    | 4, _ => rfl
    | 5, _ => rfl
    | 6, _ => rfl
    | 7, _ => rfl
    | 8, _ => rfl
    | 9, _ => rfl
theorem IV.one9 {w W : World} {g : Nat} {tz tm wt : Int} {la : Option Addr} {n lc : Nat} {tr st : List UInt8} (h : IV w g (evE tz tm wt la n lc tr st none 0 0) W) (hg : g < w.heap.size) (fa : Option Addr) (m fc : Nat) :
    IV w g (evE tz tm wt la n lc tr st fa m fc) (W.setCell ⟨w.heap.size + 1, 9, none⟩ (.slice fa m fc)) :=
  (h.set hg 9 (by omega) _).cong fun i hi => by
    match i, hi with
    | 0, _ => rfl
    | 1, _ => rfl
    | 2, _ => rfl
    | 3, _ => rfl
    | 4, _ => rfl
    | 5, _ => rfl
    | 6, _ => rfl
    | 7, _ => rfl
    | 8, _ => rfl
    | 9, _ => rfl
theorem IV.tw {w W : World} {g : Nat} {tz : Int} {la : Option Addr} {n lc : Nat} (h : IV w g (evE tz 0 0 la n lc [] [] none 0 0) W) (hg : g < w.heap.size) (tm wt : Int) :
    IV w g (evE tz tm wt la n lc [] [] none 0 0) ((W.setCell ⟨w.heap.size + 1, 5, none⟩ (.int .i64 tm)).setCell ⟨w.heap.size + 1, 6, none⟩ (.int .i64 wt)) :=
  ((h.set hg 5 (by omega) _).set hg 6 (by omega) _).cong fun i hi => by
    match i, hi with
    | 0, _ => rfl
    | 1, _ => rfl
    | 2, _ => rfl
    | 3, _ => rfl
    | 4, _ => rfl
    | 5, _ => rfl
    | 6, _ => rfl
    | 7, _ => rfl
    | 8, _ => rfl
    | 9, _ => rfl

/-- A cell that is there. -/
def Has (W : World) (b k : Nat) (v : List UInt8) : Prop := b < W.heap.size ∧ W.cell? ⟨b, k, none⟩ = some (.string ⟨v.toArray⟩)
theorem Has.new {W : World} {o : Obj} {k : Nat} {v : List UInt8} (h : ∀ W : World, (W.alloc o).cell? ⟨W.heap.size, k, none⟩ = some (.string ⟨v.toArray⟩)) : Has (W.alloc o) W.heap.size k v := ⟨by simp, h W⟩
theorem Has.new2 {W : World} {o o' : Obj} {k : Nat} {v : List UInt8} (h : ∀ W : World, (W.alloc o).cell? ⟨W.heap.size, k, none⟩ = some (.string ⟨v.toArray⟩)) : Has ((W.alloc o').alloc o) (W.heap.size + 1) k v := by
  have := h (W.alloc o')
  have e : (W.alloc o').heap.size = W.heap.size + 1 := by simp
  rw [e] at this
  exact ⟨by simp, this⟩
theorem Has.al {W : World} {b k : Nat} {v : List UInt8} (h : Has W b k v) (o : Obj) : Has (W.alloc o) b k v :=
  have hb := (Below.refl W.heap.size W).alloc (Nat.le_refl _) o
  ⟨Nat.lt_of_lt_of_le h.1 hb.size, (hb.cell (p := ⟨b, k, none⟩) h.1).trans h.2⟩
theorem Has.go {W W' : World} {g b k : Nat} {v : List UInt8} (h : Has W b k v) (ha : Apart g W W') (hn : g < b) : Has W' b k v :=
  ⟨Nat.lt_of_lt_of_le h.1 ha.1.size, (ha.cell (p := ⟨b, k, none⟩) (Nat.ne_of_gt hn) h.1).trans h.2⟩

set_option maxRecDepth 100000 in
set_option maxHeartbeats 40000000 in
theorem item_any (g : Nat) (w : World) (hc : CodesAt w g) : Calls Tryd.prog 6 #[.pointer (some ⟨g, 0, none⟩), .int .i64 1, .int .i64 5, .int .i64 0] w (ItemQ g w) := by
  have HGW := Lib.hid hc.1
  have HC0 := Lib.hid hc
  clear hc
  go_enter Tryd.func6, Tryd.ntmps6
  have HI0 := Lib.hid (IV.start HC0.out)
  go_wp2_with fail
  refine (next_any g 3 _ HI0.out.codes (by omega) (by omega)).mono ?_
  rintro e w1 ⟨n, hn, rfl, hca, hap⟩
  have HL := Lib.hid (show LN w g (.slice none 0 0) 0 w1 from ⟨(upd_self evZ 4).symm ▸ HI0.out.go HGW.out hap hca, [], ⟨rfl, .inl ⟨rfl, rfl⟩⟩⟩)
  clear hca hap HI0
  go_wp2_with fail
  go_loopw [10, 11] (fun a i wr => ∃ (t j n : Nat) (ls : Value), a = .int .i64 t ∧ i = .int .i64 j ∧ j + n ≤ 3 ∧ t + 100 * j ≤ 300 ∧ LN w g ls n wr) (fun _ i _ => (intOf i).toNat)
  case atStart => exact ⟨0, 1 + n, 0, _, rfl, by go_num, by omega, by omega, HL.out⟩
  case round =>
    obtain ⟨t, j, n, ls, rfl, rfl, hjn, htj, hLN⟩ := hrel
    have HN := Lib.hid hLN
    clear hLN HL
    cases j with
    | zero =>
      have c3 := HN.out.iv.ev 3 (by omega)
      have f3 := HN.out.iv.fz 3 (by omega)
      have hE0 := HN.out.iv.set HGW.out 3 (by omega) (.int .i64 (t : Int))
      have HR0 := Lib.hid HN.out.row
      obtain ⟨la, lc, rfl, hLR⟩ := HN.out.shape
      have HLR := Lib.hid (hLR.keep (W' := wr.setCell ⟨w.heap.size + 1, 3, none⟩ (.int .i64 (t : Int))) fun k h1 _ => Below.heap_setCell _ _ _ k (by simp; omega))
      have HE0 := Lib.hid hE0
      clear hE0 hLR
      go_wp2_with fail
      refine (next_any g 5 _ HE0.out.codes (by omega) (by omega)).mono ?_
      rintro e w2 ⟨q, hq, rfl, hca, hap⟩
      have HE1 := Lib.hid (HE0.out.go HGW.out hap hca)
      have HL1 := Lib.hid (HLR.out.keep fun k h1 hk => hap.block (by have := HGW.out; omega) hk)
      clear hca hap HE0 HLR HR0 HN c3 f3
      by_cases q4 : q = 4
      · subst q4
        go_wp2_with fail
        go_loopw [14] (fun i wr => ∃ k : Nat, i = .int .i64 k ∧ k ≤ n ∧ IV w g (Upd (Upd evZ 4 (.slice la n lc)) 3 (.int .i64 (t : Int))) wr ∧ LR w la n wr) (fun i _ => n - (intOf i).toNat)
        case atStart => exact ⟨0, rfl, by omega, HE1.out, HL1.out⟩
        case round =>
          obtain ⟨k, rfl, hk, hE, hL⟩ := hrel
          have HE := Lib.hid hE
          have HL := Lib.hid hL
          have c4 : wr.cell? ⟨w.heap.size + 1, 4, none⟩ = some (.slice la n lc) := hE.ev 4 (by omega)
          clear hE hL HE1 HL1
          by_cases hlt : k < n
          · obtain ⟨blk, rfl, hblk, ⟨u, hu⟩, hf⟩ := HL.out k hlt
            have i1 : (k : Int) < (n : Int) := by omega
            have i2 : (0 : Int) ≤ (k : Int) := by omega
            have HB := Lib.hid ((Below.refl (w.heap.size + 2) wr).setCell (p := ⟨blk, k * 3 + 2, none⟩) hblk (.string ⟨#[]⟩))
            go_wp2_with fail
            refine ⟨⟨k + 1, by go_num, by omega, HE.out.on HGW.out HB.out, HL.out.set _ _⟩, by simp [intOf]; omega⟩
          · obtain rfl : k = n := by omega
            have HEE : Hid (IV w g (evE t 0 0 la k lc [] [] none 0 0) wr) := HE.out.cong fun i hi => by
              match i, hi with
              | 0, _ => rfl
              | 1, _ => rfl
              | 2, _ => rfl
              | 3, _ => rfl
              | 4, _ => rfl
              | 5, _ => rfl
              | 6, _ => rfl
              | 7, _ => rfl
              | 8, _ => rfl
              | 9, _ => rfl
            have HED := Lib.hid (HEE.out.dr HGW.out)
            have HG := Lib.hid (Nat.lt_of_lt_of_le (show g < w.heap.size + 2 by have := HGW.out; omega) HEE.out.big)
            obtain ⟨b0, b1, b2, b3, b4, b5, b6, b7, b8, b9⟩ := HEE.out.ten
            obtain ⟨ba0, ba1, ba2, ba3, ba4, ba5, ba6, ba7, ba8, ba9⟩ := HED.out.tenA HGW.out
            obtain ⟨bd0, bd1, bd2, bd3, bd4, bd5, bd6, bd7, bd8, bd9⟩ := HED.out.ten
            have hne1 : ¬ (w.heap.size + 1 = wr.heap.size) := by have := HEE.out.big; omega
            have hne2 : ¬ (wr.heap.size = w.heap.size + 1) := by have := HEE.out.big; omega
            have hlt1 : w.heap.size + 1 < wr.heap.size := by have := HEE.out.big; omega
            go_wp2_with fail
            go_region_with (first
              | (go_at_call 15; refine (next_any g 3 _ (by first | exact HED.out.codes | exact HED.out.codes.al _) (by omega) (by omega)).mono ?_; rintro e w3 ⟨q, hq, rfl, hca, hap⟩; have i1 : (q : Int) < 3 := (by omega); have i2 : (0 : Int) ≤ (q : Int) := (by omega); obtain ⟨y, hyl, hyw, hyq⟩ := rule_at q hq; have HYW := Lib.hid hyw; have HE3 : Hid (IV w g (evE t 0 0 la k lc [] [] none 0 0) w3) := (by first | exact HED.out.go HGW.out hap hca | exact (HED.out.al HGW.out _).go HGW.out hap hca); (try (have hcell : w3.cell? ⟨wr.heap.size, q, none⟩ = some (.string ⟨y.toArray⟩) := (hap.cell (p := ⟨wr.heap.size, q, none⟩) (Nat.ne_of_gt HG.out) (by simp)).trans (HYW.out wr.drew))); have hne3 : ¬ (w.heap.size + 1 = w3.heap.size) := (by have := HE3.out.big; omega); have hlt3 : w.heap.size + 1 < w3.heap.size := (by have := HE3.out.big; omega); have hne4 : ¬ (w3.heap.size = w.heap.size + 1) := (by have := HE3.out.big; omega); obtain ⟨d0, d1, d2, d3, d4, d5, d6, d7, d8, d9⟩ := HE3.out.ten; obtain ⟨a0, a1, a2, a3, a4, a5, a6, a7, a8, a9⟩ := HE3.out.tenA HGW.out; obtain ⟨u0, u1, u2, u3, u4, u5, u6, u7, u8, u9, u10, hu0, hu1, hu2, hu3, hu4, hu5, hu6, hu7, hu8, hu9, hu10⟩ := HE3.out.elf; obtain ⟨fu0, fu1, fu2, fu3, fu4, fu5, fu6, fu7, fu8, fu9, fu10⟩ := HE3.out.elfF; obtain ⟨z0, z1, z2, z3, z4, z5, z6, z7, z8, z9, z10, hz0, hz1, hz2, hz3, hz4, hz5, hz6, hz7, hz8, hz9, hz10⟩ := (HE3.out.al HGW.out (.cells #[.string ⟨#[115, 97, 109, 112, 108, 101]⟩, .string ⟨#[100, 114, 111, 112]⟩, .string ⟨#[116, 111, 111, 45, 108, 111, 110, 103]⟩] 9)).elf; obtain ⟨fz0, fz1, fz2, fz3, fz4, fz5, fz6, fz7, fz8, fz9, fz10⟩ := (HE3.out.al HGW.out (.cells #[.string ⟨#[115, 97, 109, 112, 108, 101]⟩, .string ⟨#[100, 114, 111, 112]⟩, .string ⟨#[116, 111, 111, 45, 108, 111, 110, 103]⟩] 9)).elfF; clear hca hap hyw))
            all_goals (go_wp2_with fail)
            all_goals
              first
                | rw [nest_eq w3]; exact HE3.out.ret HGW.out _ _ (by rfl) ⟨y.toArray⟩ t la k lc 0 0 [] [] none 0 [] (by rfl) (fun W' _ _ => FI.nil W') (fun k hk => by cases hk) ⟨by decide, by decide, by decide, by decide, by decide, by decide, by decide, fun f hf => by simp at hf⟩
                | rw [nest_eq (w3.alloc _)]; exact (HE3.out.al HGW.out _).ret HGW.out _ _ (by rfl) ⟨y.toArray⟩ t la k lc 0 0 [] [] none 0 [] (by rfl) (fun W' _ _ => FI.nil W') (fun k hk => by cases hk) ⟨by decide, by decide, by decide, by decide, by decide, by decide, by decide, fun f hf => by simp at hf⟩
      · have z4 : ((q : Int) == 4) = false := by rw [beq_eq_false_iff_ne]; omega
        have HE2 : Hid (IV w g (evE t 0 0 la n lc [] [] none 0 0) w2) := HE1.out.cong fun i hi => by
          match i, hi with
          | 0, _ => rfl
          | 1, _ => rfl
          | 2, _ => rfl
          | 3, _ => rfl
          | 4, _ => rfl
          | 5, _ => rfl
          | 6, _ => rfl
          | 7, _ => rfl
          | 8, _ => rfl
          | 9, _ => rfl
        clear HE1 HL1 q4
        go_wp2_with fail
        refine (dtime_any g w2 HE2.out.codes).mono ?_
        rintro e w3 ⟨tm, htm, rfl, hca, hap⟩
        have HE3 := Lib.hid (HE2.out.go HGW.out hap hca)
        clear hca hap HE2
        go_wp2_with fail
        refine (dweight_any g w3 HE3.out.codes).mono ?_
        rintro e w4 ⟨wt, hwt, rfl, hca, hap⟩
        have HE4 := Lib.hid (HE3.out.go HGW.out hap hca)
        clear hca hap HE3
        obtain ⟨c0, c1, c2, c3, c4, c5, c6, c7, c8, c9⟩ := HE4.out.ten
        obtain ⟨f0, f1, f2, f3, f4, f5, f6, f7, f8, f9⟩ := HE4.out.tenF
        have c6' : (w4.setCell ⟨w.heap.size + 1, 5, none⟩ (.int .i64 tm)).cell? ⟨w.heap.size + 1, 6, none⟩ = some (.int .i64 0) := by
          rw [World.cell?_setCell_other _ _ _ _ (by intro e; simp only [Addr.mk.injEq] at e; omega)]; exact c6
        have f6' : (w4.setCell ⟨w.heap.size + 1, 5, none⟩ (.int .i64 tm)).frozen? ⟨w.heap.size + 1, 6, none⟩ = false := by rw [World.frozen?_setCell]; exact f6
        have HE5 := Lib.hid (HE4.out.tw HGW.out tm wt)
        go_upto_region 18 with fail
        clear c0 c1 c2 c3 c4 c5 c6 c7 c8 c9 f0 f1 f2 f3 f4 f5 f6 f7 f8 f9 c6' f6' HE4
        obtain ⟨wr, hwr⟩ : ∃ wr, (w4.setCell ⟨w.heap.size + 1, 5, none⟩ (.int .i64 tm)).setCell ⟨w.heap.size + 1, 6, none⟩ (.int .i64 wt) = wr := ⟨_, rfl⟩
        rw [hwr] at HE5 ⊢
        clear hwr
        go_cut [] (fun wx => ∃ tr st : List UInt8, tr.length ≤ 10 ∧ st.length ≤ 10 ∧ IV w g (evE t tm wt la n lc tr st none 0 0) wx)
        case first =>
          have HED := Lib.hid (HE5.out.dr HGW.out)
          have HG := Lib.hid (Nat.lt_of_lt_of_le (show g < w.heap.size + 2 by have := HGW.out; omega) HE5.out.big)
          go_region_with (first
            | (go_at_call_of 15 (Value.int .i64 4); refine (next_any g 4 _ (by first | exact HED.out.codes | exact HED.out.codes.al _ | exact (HED.out.codes.al _).al _) (by omega) (by omega)).mono ?_; rintro e w5 ⟨k, hk, rfl, hca, hap⟩; have HAP := Lib.hid hap; clear hap; have i1 : (k : Int) < 4 := (by omega); have i2 : (0 : Int) ≤ (k : Int) := (by omega); obtain ⟨y, hyl, hyw, hyq⟩ := trace_at k hk; have HYW := Lib.hid hyw; clear hyw; have HE5 : Hid (IV w g (evE t tm wt la n lc [] [] none 0 0) w5) := (by first | exact HED.out.go HGW.out HAP.out hca | exact (HED.out.al HGW.out _).go HGW.out HAP.out hca | exact ((HED.out.al HGW.out _).al HGW.out _).go HGW.out HAP.out hca); have hl5 : w.heap.size + 1 < w5.heap.size := HE5.out.big; have hl5z : w.heap.size < w5.heap.size := Nat.lt_of_succ_lt hl5; have HG5 := Lib.hid HE5.out.codes.1; clear hca; (try (have hp1 : Has w5 (wr.heap.size) k y := (by first | exact (Has.new (W := wr.drew) (o := traceO) HYW.out).go HAP.out HG.out | exact (Has.al (Has.new (W := wr.drew) (o := traceO) HYW.out) streamO).go HAP.out HG.out); have hp1a := hp1.1; have hp1b := hp1.2)); (try (have hp2 : Has w5 (wr.heap.size + 1) k y := (by first | exact (Has.new2 (W := wr.drew) (o := traceO) (o' := streamO) HYW.out).go HAP.out (Nat.lt_succ_of_lt HG.out)); have hp2a := hp2.1; have hp2b := hp2.2)); skip)
            | (go_at_call_of 15 (Value.int .i64 2); refine (next_any g 2 _ (by first | exact HE5.out.codes | exact HE5.out.codes.al _ | exact (HE5.out.codes.al _).al _) (by omega) (by omega)).mono ?_; rintro e w6 ⟨m, hm, rfl, hca, hap⟩; have HAP6 := Lib.hid hap; clear hap; have j1 : (m : Int) < 2 := (by omega); have j2 : (0 : Int) ≤ (m : Int) := (by omega); obtain ⟨z, hzl, hzw, hzq⟩ := stream_at m hm; have HZW := Lib.hid hzw; clear hzw; have HE6 : Hid (IV w g (evE t tm wt la n lc [] [] none 0 0) w6) := (by first | exact HE5.out.go HGW.out HAP6.out hca | exact (HE5.out.al HGW.out _).go HGW.out HAP6.out hca | exact ((HE5.out.al HGW.out _).al HGW.out _).go HGW.out HAP6.out hca); have hl6 : w.heap.size + 1 < w6.heap.size := HE6.out.big; have hl6z : w.heap.size < w6.heap.size := Nat.lt_of_succ_lt hl6;  have B7 : ∀ o oo, ((w6.alloc o).alloc oo).cell? ⟨w.heap.size + 1, 7, none⟩ = some (.string ⟨#[]⟩) := (fun o oo => ((HE6.out.al HGW.out o).al HGW.out oo).ev 7 (by omega)); have B8 : ∀ o oo, ((w6.alloc o).alloc oo).cell? ⟨w.heap.size + 1, 8, none⟩ = some (.string ⟨#[]⟩) := (fun o oo => ((HE6.out.al HGW.out o).al HGW.out oo).ev 8 (by omega)); have F7 : ∀ o oo, ((w6.alloc o).alloc oo).frozen? ⟨w.heap.size + 1, 7, none⟩ = false := (fun o oo => ((HE6.out.al HGW.out o).al HGW.out oo).fz 7 (by omega)); have F8 : ∀ o oo, ((w6.alloc o).alloc oo).frozen? ⟨w.heap.size + 1, 8, none⟩ = false := (fun o oo => ((HE6.out.al HGW.out o).al HGW.out oo).fz 8 (by omega)); clear hca; obtain ⟨_, _, _, _, _, _, _, d7, d8, _⟩ := HE6.out.ten; obtain ⟨_, _, _, _, _, _, _, fd7, fd8, _⟩ := HE6.out.tenF; (try (have hq1 : Has w6 (wr.heap.size) k y := (by first | exact hp1.go HAP6.out HG.out | exact (hp1.al _).go HAP6.out HG.out | exact ((hp1.al _).al _).go HAP6.out HG.out); have hq1a := hq1.1; have hq1b := hq1.2)); (try (have hq2 : Has w6 (wr.heap.size + 1) k y := (by first | exact hp2.go HAP6.out (Nat.lt_succ_of_lt HG.out) | exact (hp2.al _).go HAP6.out (Nat.lt_succ_of_lt HG.out)); have hq2a := hq2.1; have hq2b := hq2.2)); (try (have hq3 : Has w6 (w5.heap.size) k y := (by first | exact (Has.new (W := w5) (o := traceO) HYW.out).go HAP6.out HG5.out | exact (Has.al (Has.new (W := w5) (o := traceO) HYW.out) streamO).go HAP6.out HG5.out); have hq3a := hq3.1; have hq3b := hq3.2)); (try (have hq4 : Has w6 (w5.heap.size + 1) k y := (by first | exact (Has.new2 (W := w5) (o := traceO) (o' := streamO) HYW.out).go HAP6.out (Nat.lt_succ_of_lt HG5.out)); have hq4a := hq4.1; have hq4b := hq4.2)); (try (have hr1 : Has w6 (wr.heap.size) m z := (by first | exact ((Has.new (W := wr.drew) (o := streamO) HZW.out).go HAP.out HG.out).go HAP6.out HG.out | exact (((Has.new (W := wr.drew) (o := streamO) HZW.out).go HAP.out HG.out).al _).go HAP6.out HG.out | exact ((Has.al (Has.new (W := wr.drew) (o := streamO) HZW.out) traceO).go HAP.out HG.out).go HAP6.out HG.out | exact (((Has.al (Has.new (W := wr.drew) (o := streamO) HZW.out) traceO).go HAP.out HG.out).al _).go HAP6.out HG.out); have hr1a := hr1.1; have hr1b := hr1.2)); (try (have hr2 : Has w6 (wr.heap.size + 1) m z := (by first | exact ((Has.new2 (W := wr.drew) (o := streamO) (o' := traceO) HZW.out).go HAP.out (Nat.lt_succ_of_lt HG.out)).go HAP6.out (Nat.lt_succ_of_lt HG.out) | exact (((Has.new2 (W := wr.drew) (o := streamO) (o' := traceO) HZW.out).go HAP.out (Nat.lt_succ_of_lt HG.out)).al _).go HAP6.out (Nat.lt_succ_of_lt HG.out)); have hr2a := hr2.1; have hr2b := hr2.2)); (try (have hr3 : Has w6 (w5.heap.size) m z := (by first | exact (Has.new (W := w5) (o := streamO) HZW.out).go HAP6.out HG5.out | exact (Has.al (Has.new (W := w5) (o := streamO) HZW.out) traceO).go HAP6.out HG5.out); have hr3a := hr3.1; have hr3b := hr3.2)); (try (have hr4 : Has w6 (w5.heap.size + 1) m z := (by first | exact (Has.new2 (W := w5) (o := streamO) (o' := traceO) HZW.out).go HAP6.out (Nat.lt_succ_of_lt HG5.out)); have hr4a := hr4.1; have hr4b := hr4.2)); skip))
          all_goals (go_wp2_with fail)
          all_goals go_meet
          all_goals
            first
              | exact ⟨y, z, hyl, hzl, HE6.out.two HGW.out y z⟩
              | exact ⟨y, z, hyl, hzl, (HE6.out.two HGW.out y z).al HGW.out _⟩
              | exact ⟨y, z, hyl, hzl, ((HE6.out.two HGW.out y z).al HGW.out _).al HGW.out _⟩
              | exact ⟨y, z, hyl, hzl, (HE6.out.al HGW.out _).two HGW.out y z⟩
              | exact ⟨y, z, hyl, hzl, ((HE6.out.al HGW.out _).al HGW.out _).two HGW.out y z⟩
        case rest =>
          obtain ⟨tr, st, htr, hst, hE⟩ := hcut
          have HE := Lib.hid hE
          clear hE HE5
          go_wp2_with fail
          refine (fields_any g wc HE.out.codes).mono ?_
          rintro e w7 ⟨v, d, rfl, hfi, hown, hd4, hdv, hca, hap⟩
          have HE7 := Lib.hid (HE.out.go HGW.out hap hca)
          have HFI := Lib.hid hfi
          obtain ⟨fa, fc, rfl, _⟩ := hfi
          have hbg := HE.out.big
          clear hca hap
          obtain ⟨c0, c1, c2, c3, c4, c5, c6, c7, c8, c9⟩ := HE7.out.ten
          obtain ⟨f0, f1, f2, f3, f4, f5, f6, f7, f8, f9⟩ := HE7.out.tenF
          have HE8 := Lib.hid (HE7.out.one9 HGW.out fa d.length fc)
          have HFI8 : Hid (FI (w7.setCell ⟨w.heap.size + 1, 9, none⟩ (.slice fa d.length fc)) (.slice fa d.length fc) d) := HFI.out.except (b := w.heap.size + 1) (n := d.length) (fun k hk => by have := hown k hk; omega) (by simp) (fun k hk => Below.heap_setCell _ _ _ k (fun e => hk e))
          obtain ⟨u0, u1, u2, u3, u4, u5, u6, u7, u8, u9, u10, hu0, hu1, hu2, hu3, hu4, hu5, hu6, hu7, hu8, hu9, hu10⟩ := HE8.out.elf
          obtain ⟨fu0, fu1, fu2, fu3, fu4, fu5, fu6, fu7, fu8, fu9, fu10⟩ := HE8.out.elfF
          go_wp2_with fail
          rw [nest_eq (w7.setCell _ _)]
          exact HE8.out.ret HGW.out _ _ (by rfl) ⟨#[]⟩ t la n lc tm wt tr st fa fc d (by rfl) (fun W' h1 h2 => HFI8.out.except (b := w.heap.size) (n := d.length) (fun k hk => by have := hown k hk; omega) h1 h2) (fun k hk => by have := hown k hk; have := HGW.out; omega) ⟨by show 1 ≤ 1000000000000000000; omega, by show 5 ≤ 1000000000000000000; omega, by show tm ≤ _; omega, by show wt ≤ _; omega, by show tr.length ≤ _; omega, by show st.length ≤ _; omega, by show d.length ≤ _; omega, hdv⟩
    | succ j =>
      have hj0 : (0 : Int) < (j : Int) + 1 := by omega
      go_wp2_with fail
      refine (text_any g wr HN.out.iv.codes).mono ?_
      rintro e w2 ⟨x, hx, rfl, hca, hap⟩
      have HN2 := Lib.hid (HN.out.go HGW.out hap hca)
      clear hca hap
      go_wp2_with fail
      refine (next_any g 2 w2 HN2.out.iv.codes (by omega) (by omega)).mono ?_
      rintro e w3 ⟨q, hq, rfl, hca, hap⟩
      have HN3 := Lib.hid (HN2.out.go HGW.out hap hca)
      clear hca hap
      obtain ⟨xs, ho⟩ := HN3.out.row
      have HO := Lib.hid ho
      have c4 : w3.cell? ⟨w.heap.size + 1, 4, none⟩ = some ls := HN3.out.iv.ev 4 (by omega)
      have f4 := HN3.out.iv.fz 4 (by omega)
      clear ho
      have hbig := HN3.out.iv.big
      have q1 : n + 1 ≤ 140737488355328 := by omega
      have q2 : (n + 1) * 32 ≤ 140737488355328 := by omega
      have hone : ∀ u ∈ [Value.int .i64 (t : Int), .int .i64 ((x.length : Int) + 1 + (q : Int)), .string ⟨x.toArray⟩], u.oneCell' = true := by
        intro u hu
        simp only [List.mem_cons, List.not_mem_nil, or_false] at hu
        rcases hu with rfl | rfl | rfl <;> rfl
      go_wp2_with (at_builtin; refine wpList_append_k (ys := [.int .i64 (t : Int), .int .i64 ((x.length : Int) + 1 + (q : Int)), .string ⟨x.toArray⟩]) rfl _ _ 26 45 (.agg #[.int .i64 0, .int .i64 0, .string ⟨#[]⟩]) 3 32 rfl Tryd.underlying26 infoL rfl (by decide) (w.heap.size + 2) _ _ _ rfl HO.out rfl w3.heap.size rfl rfl hone q1 q2 hbig ?_; intro v' w7 hown' hgrow; obtain ⟨g7, k7, rfl, _, _⟩ := World.ownsRow.form hown' (by omega); have HB7 := Lib.hid (((Below.refl (w.heap.size + 2) w3).alloc hbig (.cells #[.int .i64 (t : Int), .int .i64 ((x.length : Int) + 1 + (q : Int)), .string ⟨x.toArray⟩] 45)).grown hgrow (by simp; omega) (fun k hk => (HO.out.lt k hk).1)); have HI7 := Lib.hid (HN3.out.iv.on HGW.out HB7.out); have c7 : w7.cell? ⟨w.heap.size + 1, 4, none⟩ = some ls := HI7.out.ev 4 (by omega); have f7 := HI7.out.fz 4 (by omega); have HO7 := Lib.hid hown'; clear hown' hgrow c4 f4)
      have HL7 := Lib.hid (show LN w g (.slice (some ⟨g7, 0, none⟩) (n + 1) k7) (n + 1) (w7.setCell ⟨w.heap.size + 1, 4, none⟩ (.slice (some ⟨g7, 0, none⟩) (n + 1) k7)) from ⟨by have := HI7.out.set HGW.out 4 (by omega) (.slice (some ⟨g7, 0, none⟩) (n + 1) k7); rwa [upd_twice] at this, _, HI7.out.row HO7.out⟩)
      refine ⟨⟨t + (x.length + 1 + q), j, n + 1, .slice (some ⟨g7, 0, none⟩) (n + 1) k7, by go_num, by go_num, by omega, by omega, HL7.out⟩, by simp [intOf]⟩

end Go.Proofs.YtmcnhphmglmmeabDoor

/-
 Joined: MtC, MtD, MtE, MtF, MtG, MtH, MtI, PatB, PatC, Kinds, PatD.
-/
import Derived.Test.YtmpbjaodgajnfaaGreatDoorEfA
import Derived.BigQuiet
import Derived.IntWalk
namespace Go.Proofs.YtmpbjaodgajnfaaGreatDoor.Mt
section
variable {C : List Ins} {s : List UInt8} {L pc at_ e : Nat} {i : Ins} {r : Res}
theorem Way.hit0 (he : e ≤ L) (hC : C[pc]? = some i) (ho : i.op = 0) (hb : hitB s at_ i.rs = true) (h : Way C s L (pc + 1) (at_ + 1) 0 r) : Way C s L pc at_ e r := by
 have hle := Way.le C s L h
 obtain ⟨n, h⟩ := h
 exact ⟨n + 1, by rw [runF, if_neg (by omega), hC]; simp only [ho, hb, if_true]; exact h⟩
theorem Way.miss0 (he : e ≤ L) (hC : C[pc]? = some i) (ho : i.op = 0) (hb : hitB s at_ i.rs = false) : Way C s L pc at_ e none :=
 ⟨1, by rw [runF, if_neg (by omega), hC]; simp [ho, hb]⟩
theorem Way.yes {q : Nat × List Mk} (hC : C[pc]? = some i) (ho : i.op = 1) (h : Way C s L i.x at_ e (some q)) : Way C s L pc at_ e (some q) := by
 have hle := Way.le C s L h
 obtain ⟨n, h⟩ := h
 exact ⟨n + 1, by rw [runF, if_neg (by omega), hC]; simp [ho, h]⟩
theorem Way.no (hC : C[pc]? = some i) (ho : i.op = 1) (h : Way C s L i.x at_ e none) (h2 : Way C s L i.y at_ e r) : Way C s L pc at_ e r := by
 have hle := Way.le C s L h
 obtain ⟨n, h⟩ := h
 obtain ⟨m, h2⟩ := h2
 have h3 := runF_le C s L (Nat.le_max_left n m) h
 have h4 := runF_le C s L (Nat.le_max_right n m) h2
 exact ⟨max n m + 1, by rw [runF, if_neg (by omega), hC]; simp [ho, h3, h4]⟩
theorem Way.jump (hC : C[pc]? = some i) (ho : i.op = 2) (h : Way C s L i.x at_ e r) : Way C s L pc at_ e r := by
 have hle := Way.le C s L h
 obtain ⟨n, h⟩ := h
 exact ⟨n + 1, by rw [runF, if_neg (by omega), hC]; simp [ho, h]⟩
theorem Way.opn (hC : C[pc]? = some i) (ho : i.op = 3) (h : Way C s L (pc + 1) at_ e r) : Way C s L pc at_ e (addM (true, i.x, at_) r) := by
 have hle := Way.le C s L h
 obtain ⟨n, h⟩ := h
 exact ⟨n + 1, by rw [runF, if_neg (by omega), hC]; simp [ho, h]⟩
theorem Way.cls (hC : C[pc]? = some i) (ho : i.op = 4) (h : Way C s L (pc + 1) at_ e r) : Way C s L pc at_ e (addM (false, i.x, at_) r) := by
 have hle := Way.le C s L h
 obtain ⟨n, h⟩ := h
 exact ⟨n + 1, by rw [runF, if_neg (by omega), hC]; simp [ho, h]⟩
theorem Way.hit5 (hC : C[pc]? = some i) (ho : i.op = 5) (hb : at_ = 0) (h : Way C s L (pc + 1) at_ e r) : Way C s L pc at_ e r := by
 have hle := Way.le C s L h
 obtain ⟨n, h⟩ := h
 exact ⟨n + 1, by rw [runF, if_neg (by omega), hC]; simp only [ho]; rw [if_neg (by decide), if_neg (by decide), if_neg (by decide), if_neg (by decide), if_neg (by decide), if_pos trivial, if_pos hb]; exact h⟩
theorem Way.miss5 (he : e ≤ L) (hC : C[pc]? = some i) (ho : i.op = 5) (hb : at_ ≠ 0) : Way C s L pc at_ e none :=
 ⟨1, by rw [runF, if_neg (by omega), hC]; simp [ho, hb]⟩
theorem Way.hit6 (hC : C[pc]? = some i) (ho : i.op = 6) (hb : at_ = s.length) (h : Way C s L (pc + 1) at_ e r) : Way C s L pc at_ e r := by
 have hle := Way.le C s L h
 obtain ⟨n, h⟩ := h
 exact ⟨n + 1, by rw [runF, if_neg (by omega), hC]; simp only [ho]; rw [if_neg (by decide), if_neg (by decide), if_neg (by decide), if_neg (by decide), if_neg (by decide), if_neg (by decide), if_pos trivial, if_pos hb]; exact h⟩
theorem Way.miss6 (he : e ≤ L) (hC : C[pc]? = some i) (ho : i.op = 6) (hb : at_ ≠ s.length) : Way C s L pc at_ e none :=
 ⟨1, by rw [runF, if_neg (by omega), hC]; simp [ho, hb]⟩
theorem Way.enter (hC : C[pc]? = some i) (ho : i.op = 7) (h : Way C s L (pc + 1) at_ (e + 1) r) : Way C s L pc at_ e r := by
 have hle := Way.le C s L h
 obtain ⟨n, h⟩ := h
 exact ⟨n + 1, by rw [runF, if_neg (by omega), hC]; simp [ho, h]⟩
theorem Way.hit8 (hC : C[pc]? = some i) (ho : i.op = 8) (hb : e = 0) (h : Way C s L (pc + 1) at_ e r) : Way C s L pc at_ e r := by
 have hle := Way.le C s L h
 obtain ⟨n, h⟩ := h
 exact ⟨n + 1, by rw [runF, if_neg (by omega), hC]; simp only [ho]; rw [if_neg (by decide), if_neg (by decide), if_neg (by decide), if_neg (by decide), if_neg (by decide), if_neg (by decide), if_neg (by decide), if_neg (by decide), if_pos trivial, if_pos hb]; exact h⟩
theorem Way.miss8 (he : e ≤ L) (hC : C[pc]? = some i) (ho : i.op = 8) (hb : e ≠ 0) : Way C s L pc at_ e none :=
 ⟨1, by rw [runF, if_neg (by omega), hC]; simp [ho, hb]⟩
theorem Way.fin (he : e ≤ L) (hC : C[pc]? = some i) (ho : i.op = 9) : Way C s L pc at_ e (some (at_, [])) :=
 ⟨1, by rw [runF, if_neg (by omega), hC]; simp [ho]⟩
end
def Lies (C : List Ins) (b : Nat) (c : List Ins) : Prop := ∀ k (h : k < c.length), C[b + k]? = some c[k]
theorem Lies.app {C : List Ins} {b : Nat} {c d : List Ins} (h : Lies C b (c ++ d)) : Lies C b c ∧ Lies C (b + c.length) d := by
 refine ⟨fun k hk => ?_, fun k hk => ?_⟩
 ·rw [h k (by rw [List.length_append]; omega), List.getElem_append_left hk]
 ·rw [Nat.add_assoc, h (c.length + k) (by rw [List.length_append]; omega), List.getElem_append_right (by omega)]
  simp
theorem Lies.hd {C : List Ins} {b : Nat} {i : Ins} {c : List Ins} (h : Lies C b (i :: c)) : C[b]? = some i ∧ Lies C (b + 1) c := by
 refine ⟨by have := h 0 (by simp); simpa using this, fun k hk => ?_⟩
 have := h (k + 1) (by simpa using hk)
 rw [show b + 1 + k = b + (k + 1) by omega, this]
 simp
def Nx (s : List UInt8) (at_ e at' e' : Nat) : Prop := (at' = at_ ∧ e' = e) ∨ (at_ < at' ∧ at' ≤ s.length ∧ e' = 0)
theorem Nx.le {s : List UInt8} {at_ e at' e' : Nat} (h : Nx s at_ e at' e') (ha : at_ ≤ s.length) : at' ≤ s.length := by
 rcases h with ⟨rfl, _⟩ | ⟨_, h, _⟩ <;> omega
theorem Nx.trans {s : List UInt8} {a0 e0 a1 e1 a2 e2 : Nat} (h : Nx s a0 e0 a1 e1) (k : Nx s a1 e1 a2 e2) : Nx s a0 e0 a2 e2 := by
 unfold Nx at *
 omega
theorem opts_len (f : Nat → List Nm → Cmp) (E : Nat) : ∀ n b ns, (opts f E n b ns).1.length = (opts f 0 n b ns).1.length
 | 0, _, _ => rfl
 | n + 1, b, ns => by
  rw [opts, opts]
  simp only [List.cons_append, List.length_cons, List.length_append]
  rw [opts_len f E n]
theorem compA_two (E : Nat) (k k2 : NT) (ks : List NT) (b : Nat) (ns : List Nm) : compA E (k :: k2 :: ks) b ns = (⟨1, b + 1, b + 1 + (compN k (b + 1) ns).1.length + 1, []⟩ :: (compN k (b + 1) ns).1 ++ ⟨2, E, 0, []⟩ :: (compA E (k2 :: ks) (b + 1 + (compN k (b + 1) ns).1.length + 1) (compN k (b + 1) ns).2).1,
   (compA E (k2 :: ks) (b + 1 + (compN k (b + 1) ns).1.length + 1) (compN k (b + 1) ns).2).2) := by
 rw [compA]
 intro h
 cases h
theorem compA_len (E E' : Nat) : ∀ (ks : List NT) (b : Nat) (ns : List Nm), (compA E ks b ns).1.length = (compA E' ks b ns).1.length
 | [], _, _ => by rw [compA, compA]
 | [k], _, _ => by rw [compA, compA]
 | k :: k2 :: ks, b, ns => by
  rw [compA_two, compA_two]
  simp only [List.cons_append, List.length_cons, List.length_append]
  rw [compA_len E E' (k2 :: ks)]
end Go.Proofs.YtmpbjaodgajnfaaGreatDoor.Mt
namespace Go.Proofs.YtmpbjaodgajnfaaGreatDoor.Mt
theorem bit_set (v b k : Nat) : (v ||| 2 ^ b).testBit k = (v.testBit k || decide (b = k)) := by
 rw [Nat.testBit_or, Nat.testBit_two_pow]
theorem bit_and (v b : Nat) : (v &&& 2 ^ b = 0) ↔ v.testBit b = false := by
 constructor
 ·intro h
  have := congrArg (Nat.testBit · b) h
  simp only [Nat.testBit_and, Nat.testBit_two_pow, decide_true, Bool.and_true, Nat.zero_testBit] at this
  exact this
 ·intro h
  apply Nat.eq_of_testBit_eq
  intro j
  rw [Nat.testBit_and, Nat.testBit_two_pow, Nat.zero_testBit]
  by_cases e : b = j
  ·subst e; simp [h]
  ·simp [e]
def stI (n pc at_ : Nat) : Nat := pc * (n + 1) + at_
theorem stI_lt {n pc at_ pc' at' : Nat} (h : at_ ≤ n) (hp : pc < pc') : stI n pc at_ < stI n pc' at' := by
 unfold stI
 have := Nat.mul_le_mul_right (n + 1) (Nat.succ_le_of_lt hp)
 rw [Nat.succ_mul] at this
 omega
theorem stI_inj {n pc at_ pc' at' : Nat} (h : at_ ≤ n) (h' : at' ≤ n) (e : stI n pc at_ = stI n pc' at') : pc = pc' ∧ at_ = at' := by
 rcases Nat.lt_trichotomy pc pc' with c | c | c
 ·have := stI_lt (at' := at') h c
  omega
 ·subst c
  unfold stI at e
  exact ⟨rfl, by omega⟩
 ·have := stI_lt (at' := at_) h' c
  omega
def Sound (C : List Ins) (s : List UInt8) (L e : Nat) (ws : List Nat) : Prop := ∀ pc at_ v, at_ ≤ s.length → ws[stI s.length pc at_ / 64]? = some v → v.testBit (stI s.length pc at_ % 64) = true → Way C s L pc at_ e none
theorem Sound.zero (C : List Ins) (s : List UInt8) (L e n : Nat) : Sound C s L e (List.replicate n 0) := by
 intro pc at_ v _ h hb
 rw [List.getElem?_replicate] at h
 split at h
 ·injection h with h
  subst h
  simp at hb
 ·cases h
theorem Sound.set {C : List Ins} {s : List UInt8} {L e : Nat} {ws : List Nat} (h : Sound C s L e ws) {pc at_ v : Nat} (ha : at_ ≤ s.length) (hv : ws[stI s.length pc at_ / 64]? = some v) (hw : Way C s L pc at_ e none) :
  Sound C s L e (ws.set (stI s.length pc at_ / 64) (v ||| 2 ^ (stI s.length pc at_ % 64))) := by
 intro pc' at' v' ha' hv' hb
 rw [List.getElem?_set] at hv'
 split at hv'
 ·next he =>
  split at hv'
  ·injection hv' with hv'
   subst hv'
   rw [bit_set, Bool.or_eq_true, decide_eq_true_iff] at hb
   rcases hb with hb | hb
   ·exact h pc' at' v ha' (by rw [← he]; exact hv) hb
   ·have e : stI s.length pc at_ = stI s.length pc' at' := by
     have h1 := Nat.div_add_mod (stI s.length pc at_) 64
     have h2 := Nat.div_add_mod (stI s.length pc' at') 64
     omega
    obtain ⟨rfl, rfl⟩ := stI_inj ha ha' e
    exact hw
  ·cases hv'
 ·exact h pc' at' v' ha' hv' hb
def fstM (ms : List Mk) (b : Bool) (i : Nat) : Option Nat := (ms.find? fun m => decide (m.1 = b ∧ m.2.1 = i)).map (·.2.2)
end Go.Proofs.YtmpbjaodgajnfaaGreatDoor.Mt
namespace Go.Proofs.YtmpbjaodgajnfaaGreatDoor.Mt
abbrev Out := Nat × Nat × List Mk
def seqD (l : List Out) (g : Nat → Nat → List Out) : List Out := l.flatMap fun o => (g o.1 o.2.1).map fun q => (q.1, q.2.1, q.2.2 ++ o.2.2)
def fstD : List Out → (Nat → Nat → Res) → Res
 | [], _ => none
 | o :: l, K => match K o.1 o.2.1 with
  | some x => some (x.1, x.2 ++ o.2.2)
  | none => fstD l K
def orR : Res → Res → Res
 | some x, _ => some x
 | none, r => r
theorem fstD_app (l m : List Out) (K : Nat → Nat → Res) : fstD (l ++ m) K = orR (fstD l K) (fstD m K) := by
 induction l with
 | nil => rfl
 | cons o l ih =>
  rw [List.cons_append, fstD, fstD]
  cases K o.1 o.2.1 with
  | some x => rfl
  | none => exact ih
theorem fstD_one (a e : Nat) (K : Nat → Nat → Res) : fstD [(a, e, [])] K = K a e := by
 rw [fstD, fstD]
 cases h : K a e with
 | none => rfl
 | some x => simp
theorem fstD_map (l : List Out) (ms : List Mk) (K : Nat → Nat → Res) : fstD (l.map fun q => (q.1, q.2.1, q.2.2 ++ ms)) K = (fstD l K).map fun x => (x.1, x.2 ++ ms) := by
 induction l with
 | nil => rfl
 | cons o l ih =>
  rw [List.map_cons, fstD, fstD]
  cases K o.1 o.2.1 with
  | some x => simp
  | none => exact ih
theorem fstD_seq (l : List Out) (g : Nat → Nat → List Out) (K : Nat → Nat → Res) : fstD (seqD l g) K = fstD l (fun a e => fstD (g a e) K) := by
 induction l with
 | nil => rfl
 | cons o l ih =>
  have hs : seqD (o :: l) g = ((g o.1 o.2.1).map fun q => (q.1, q.2.1, q.2.2 ++ o.2.2)) ++ seqD l g := by unfold seqD; rw [List.flatMap_cons]
  rw [hs, fstD_app, fstD_map, ih, fstD]
  cases fstD (g o.1 o.2.1) K with
  | some x => rfl
  | none => rfl
theorem fstD_filter (l : List Out) (p : Nat → Bool) (K : Nat → Nat → Res) : fstD (l.filter fun o => p o.2.1) K = fstD l (fun a e => if p e = true then K a e else none) := by
 induction l with
 | nil => rfl
 | cons o l ih =>
  rw [List.filter_cons]
  cases hp : p o.2.1 with
  | true => rw [if_pos rfl, fstD, fstD, if_pos hp, ih]
  | false =>
   rw [if_neg (by decide), ih]
   conv => rhs; rw [fstD]
   rw [if_neg (by rw [hp]; decide)]
section
variable (f : List Nm → Nat → Nat → List Out) (fn : List Nm → List Nm)
def timesD : Nat → List Nm → Nat → Nat → List Out
 | 0, _, a, e => [(a, e, [])]
 | n + 1, ns, a, e => seqD (f ns a e) (timesD n (fn ns))
def optsD : Nat → List Nm → Nat → Nat → List Out
 | 0, _, a, e => [(a, e, [])]
 | n + 1, ns, a, e => seqD (f ns a e) (optsD n (fn ns)) ++ [(a, e, [])]
def starD (ns : List Nm) : Nat → Nat → Nat → List Out
 | 0, a, e => [(a, e, [])]
 | m + 1, a, e => seqD ((f ns a (e + 1)).filter fun o => decide (o.2.1 = 0)) (starD ns m) ++ [(a, e, [])]
def timesN : Nat → List Nm → List Nm
 | 0, ns => ns
 | n + 1, ns => timesN n (fn ns)
def reptD (s : List UInt8) (mn mx : Int) (ns : List Nm) (a e : Nat) : List Out :=
 if mx = -1 then seqD (timesD f fn mn.toNat ns a e) fun a e => starD f (timesN fn mn.toNat ns) (s.length - a) a e
 else seqD (timesD f fn mn.toNat ns a e) (optsD f fn (mx - mn).toNat (timesN fn mn.toNat ns))
end
mutual
def nsN : NT → List Nm → List Nm
 | .node op _ nm kids mn mx, ns =>
  if op = 1 then ns else if op = 6 then ns else if op = 7 then ns
  else if op = 2 then nsL kids ns
  else if op = 3 then nsL kids ns
  else if op = 5 then nsH kids (capL ns nm)
  else if op = 4 then (if mx = 0 then capsL (kids.take 1) ns else if mx = -1 then nsH kids (timesN (nsH kids) mn.toNat ns) else timesN (nsH kids) (mx - mn).toNat (timesN (nsH kids) mn.toNat ns))
  else ns
def nsH : List NT → List Nm → List Nm
 | [], ns => ns
 | k :: _, ns => nsN k ns
def nsL : List NT → List Nm → List Nm
 | [], ns => ns
 | k :: ks, ns => nsL ks (nsN k ns)
end
mutual
def denN (s : List UInt8) : NT → List Nm → Nat → Nat → List Out
 | .node op rs nm kids mn mx, ns, a, e =>
  if op = 1 then (if hitB s a rs = true then [(a + 1, 0, [])] else [])
  else if op = 6 then (if a = 0 then [(a, e, [])] else [])
  else if op = 7 then (if a = s.length then [(a, e, [])] else [])
  else if op = 2 then denL s kids ns a e
  else if op = 3 then denA s kids ns a e
  else if op = 5 then (denH s kids (capL ns nm) a e).map fun q => (q.1, q.2.1, (false, capI ns nm, q.1) :: q.2.2 ++ [(true, capI ns nm, a)])
  else if op = 4 then (if mx = 0 then [(a, e, [])] else reptD (denH s kids) (nsH kids) s mn mx ns a e)
  else [(a, e, [])]
def denH (s : List UInt8) : List NT → List Nm → Nat → Nat → List Out
 | [], _, a, e => [(a, e, [])]
 | k :: _, ns, a, e => denN s k ns a e
def denL (s : List UInt8) : List NT → List Nm → Nat → Nat → List Out
 | [], _, a, e => [(a, e, [])]
 | k :: ks, ns, a, e => seqD (denN s k ns a e) (denL s ks (nsN k ns))
def denA (s : List UInt8) : List NT → List Nm → Nat → Nat → List Out
 | [], _, a, e => [(a, e, [])]
 | [k], ns, a, e => denN s k ns a e
 | k :: ks, ns, a, e => denN s k ns a e ++ denA s ks (nsN k ns) a e
end
def Sem (C : List Ins) (s : List UInt8) (L n b b' : Nat) (D : Nat → Nat → List Out) : Prop := ∀ a e (K : Nat → Nat → Res), a ≤ s.length → e + n ≤ L → (∀ a' e', Nx s a e a' e' → Way C s L b' a' e' (K a' e')) → Way C s L b a e (fstD (D a e) K)
theorem Sem.refl (C : List Ins) (s : List UInt8) (L n b : Nat) : Sem C s L n b b fun a e => [(a, e, [])] := fun a e K _ _ h => by
 rw [fstD_one]
 exact h a e (.inl ⟨rfl, rfl⟩)
theorem Nx.lt {s : List UInt8} {a e a' e' : Nat} (h : Nx s a e a' e') : e' ≤ e := by
 unfold Nx at h
 omega
theorem Sem.trans {C : List Ins} {s : List UInt8} {L n b0 b1 b2 : Nat} {D E : Nat → Nat → List Out} (h : Sem C s L n b0 b1 D) (k : Sem C s L n b1 b2 E) : Sem C s L n b0 b2 fun a e => seqD (D a e) E := fun a e K ha hl hk => by
 rw [fstD_seq]
 exact h a e _ ha hl fun a' e' hn => k a' e' K (hn.le ha) (by have := hn.lt; omega) fun a2 e2 hn2 => hk a2 e2 (hn.trans hn2)
theorem Sem.mono {C : List Ins} {s : List UInt8} {L n n' b b' : Nat} {D : Nat → Nat → List Out} (h : Sem C s L n b b' D) (hn : n ≤ n') : Sem C s L n' b b' D := fun a e K ha hl hk => h a e K ha (by omega) hk
theorem Way.split {C : List Ins} {s : List UInt8} {L pc a e : Nat} {i : Ins} {r q : Res} (hC : C[pc]? = some i) (ho : i.op = 1) (h : Way C s L i.x a e r) (h2 : Way C s L i.y a e q) : Way C s L pc a e (orR r q) := by
 cases r with
 | some x => exact h.yes hC ho
 | none => exact h.no hC ho h2
def SemF (s : List UInt8) (L n : Nat) (f : Nat → List Nm → Cmp) (D : List Nm → Nat → Nat → List Out) (fn : List Nm → List Nm) : Prop := ∀ C b ns, (f b ns).2 = fn ns ∧ (Lies C b (f b ns).1 → Sem C s L n b (b + (f b ns).1.length) (D ns))
section
variable {s : List UInt8} {L q : Nat} {f : Nat → List Nm → Cmp} {D : List Nm → Nat → Nat → List Out} {fn : List Nm → List Nm} (hf : SemF s L q f D fn)
include hf
theorem times_sem : ∀ n, SemF s L q (times f n) (timesD D fn n) (timesN fn n)
 | 0, C, b, ns => ⟨rfl, fun _ => Sem.refl C s L q b⟩
 | n + 1, C, b, ns => by
  have ih := times_sem n C (b + (f b ns).1.length) (f b ns).2
  rw [times]
  rw [(hf C b ns).1] at ih
  refine ⟨?_, fun h => ?_⟩
  ·simp only
   rw [(hf C b ns).1]
   exact ih.1
  ·simp only at h ⊢
   rw [(hf C b ns).1] at h ⊢
   obtain ⟨h1, h2⟩ := h.app
   have := ((hf C b ns).2 h1).trans (ih.2 h2)
   rw [List.length_append, ← Nat.add_assoc]
   exact this
theorem opts_names (E : Nat) : ∀ n b ns, (opts f E n b ns).2 = timesN fn n ns
 | 0, _, _ => rfl
 | n + 1, b, ns => by
  rw [opts]
  simp only
  rw [opts_names E n, (hf [] (b + 1) ns).1]
  rfl
theorem opts_sem (E : Nat) : ∀ n C b ns, Lies C b (opts f E n b ns).1 → E = b + (opts f E n b ns).1.length → Sem C s L q b E (optsD D fn n ns)
 | 0, C, b, ns, _, hE => by
  rw [opts] at hE
  simp only [List.length_nil, Nat.add_zero] at hE
  rw [hE]
  exact Sem.refl C s L q b
 | n + 1, C, b, ns, h, hE => by
  rw [opts] at h hE
  simp only [List.cons_append] at h
  simp only [List.cons_append, List.length_cons, List.length_append] at hE
  obtain ⟨h0, h1⟩ := h.hd
  obtain ⟨h1, h2⟩ := h1.app
  have t1 := (hf C (b + 1) ns).2 h1
  have t2 := opts_sem E n C _ _ h2 (by omega)
  rw [(hf C (b + 1) ns).1] at t2
  intro a e K ha hl hk
  rw [optsD, fstD_app, fstD_one]
  exact Way.split h0 rfl ((t1.trans t2) a e K ha hl hk) (hk a e (.inl ⟨rfl, rfl⟩))
theorem star_sem (C : List Ins) (b : Nat) (ns : List Nm) : (star f b ns).2 = fn ns ∧ (Lies C b (star f b ns).1 → Sem C s L (q + 1) b (b + (star f b ns).1.length) fun a e => starD D ns (s.length - a) a e) := by
 refine ⟨(hf C (b + 2) ns).1, fun h => ?_⟩
 have hlen : (star f b ns).1.length = (f (b + 2) ns).1.length + 4 := by unfold star; simp
 rw [hlen]
 unfold star at h
 simp only [List.cons_append] at h
 obtain ⟨h0, h1⟩ := h.hd
 obtain ⟨h1, h2⟩ := h1.hd
 obtain ⟨h2, h3⟩ := h2.app
 obtain ⟨h3, h4⟩ := h3.hd
 obtain ⟨h4, _⟩ := h4.hd
 have t1 := (hf C (b + 2) ns).2 h2
 obtain ⟨M, hM⟩ : ∃ M, (f (b + 2) ns).1.length = M := ⟨_, rfl⟩
 rw [hM] at h0 h3 h4 t1 ⊢
 have key : ∀ m a e (K : Nat → Nat → Res), s.length - a ≤ m → a ≤ s.length → e + (q + 1) ≤ L → (∀ a' e', Nx s a e a' e' → Way C s L (b + (M + 4)) a' e' (K a' e')) → Way C s L b a e (fstD (starD D ns m a e) K) := by
  intro m
  induction m with
  | zero =>
   intro a e K hm ha hl hk
   have hy : Way C s L (b + 4 + M) a e (K a e) := by
    have := hk a e (.inl ⟨rfl, rfl⟩)
    rwa [show b + (M + 4) = b + 4 + M by omega] at this
   rw [starD, fstD_one]
   have hx : Way C s L (b + 1 + 1) a (e + 1) (fstD (D ns a (e + 1)) fun _ _ => none) := t1 a (e + 1) _ ha (by omega) fun a' e' hn => by
    rcases hn with ⟨rfl, rfl⟩ | ⟨h5, h6, _⟩
    ·exact Way.miss8 (by omega) h3 rfl (by omega)
    ·omega
   have hnone : ∀ l : List Out, fstD l (fun _ _ => none) = none := by
    intro l
    induction l with
    | nil => rfl
    | cons o l ih => rw [fstD]; exact ih
   rw [hnone] at hx
   exact Way.no h0 rfl (hx.enter h1 rfl) hy
  | succ m ih =>
   intro a e K hm ha hl hk
   have hy : Way C s L (b + 4 + M) a e (K a e) := by
    have := hk a e (.inl ⟨rfl, rfl⟩)
    rwa [show b + (M + 4) = b + 4 + M by omega] at this
   rw [starD, fstD_app, fstD_one, fstD_seq, fstD_filter (D ns a (e + 1)) (fun e => decide (e = 0))]
   refine Way.split h0 rfl (Way.enter h1 rfl (t1 a (e + 1) _ ha (by omega) fun a' e' hn => ?_)) hy
   rcases hn with ⟨rfl, rfl⟩ | ⟨h5, h6, rfl⟩
   ·rw [if_neg (by simp)]
    exact Way.miss8 (by omega) h3 rfl (by omega)
   ·rw [if_pos (by simp)]
    refine Way.hit8 h3 rfl rfl (Way.jump h4 rfl ?_)
    exact ih a' 0 K (by omega) h6 (by omega) fun a2 e2 hn2 => hk a2 e2 (Nx.trans (.inr ⟨h5, h6, rfl⟩) hn2)
 exact fun a e K ha hl hk => key _ a e K (Nat.le_refl _) ha hl hk
end
end Go.Proofs.YtmpbjaodgajnfaaGreatDoor.Mt
namespace Go.Proofs.YtmpbjaodgajnfaaGreatDoor.Mt
theorem rept_sem {s : List UInt8} {L q : Nat} {f : Nat → List Nm → Cmp} {D : List Nm → Nat → Nat → List Out} {fn : List Nm → List Nm} (hf : SemF s L q f D fn) (mn mx : Int) :
  SemF s L (if mx = -1 then q + 1 else q) (rept f mn mx) (reptD D fn s mn mx) (fun ns => if mx = -1 then fn (timesN fn mn.toNat ns) else timesN fn (mx - mn).toNat (timesN fn mn.toNat ns)) := by
 intro C b ns
 have ht := times_sem hf mn.toNat C b ns
 unfold rept
 dsimp only
 by_cases h1 : mx = -1
 ·rw [if_pos h1, if_pos h1, if_pos h1]
  have hs := star_sem hf C (b + (times f mn.toNat b ns).1.length) (times f mn.toNat b ns).2
  rw [ht.1] at hs
  refine ⟨?_, fun h => ?_⟩
  ·simp only
   rw [ht.1]
   exact hs.1
  ·simp only at h ⊢
   rw [ht.1] at h ⊢
   obtain ⟨h2, h3⟩ := h.app
   have := ((ht.2 h2).mono (Nat.le_succ q)).trans (hs.2 h3)
   rw [List.length_append, ← Nat.add_assoc]
   intro a e K ha hl hk
   unfold reptD
   rw [if_pos h1]
   exact this a e K ha hl hk
 ·rw [if_neg h1, if_neg h1, if_neg h1]
  refine ⟨?_, fun h => ?_⟩
  ·simp only
   rw [opts_names hf, ht.1]
  ·simp only at h ⊢
   obtain ⟨h2, h3⟩ := h.app
   have hE := fun E => opts_len f E (mx - mn).toNat (b + (times f mn.toNat b ns).1.length) (times f mn.toNat b ns).2
   have := (ht.2 h2).trans (opts_sem hf _ _ C _ _ h3 (congrArg (_ + ·) (hE _).symm))
   rw [List.length_append, hE, ← Nat.add_assoc]
   intro a e K ha hl hk
   unfold reptD
   rw [if_neg h1]
   rw [ht.1] at this
   rw [ht.1] at hk
   exact this a e K ha hl hk
theorem capH (kids : List NT) (b : Nat) (ns : List Nm) (i : Nat) (C : List Ins) (s : List UInt8) (L n : Nat) (D : Nat → Nat → List Out) (h : Lies C b (⟨3, i, 0, []⟩ :: (compH kids (b + 1) ns).1 ++ [⟨4, i, 0, []⟩])) (hs : Lies C (b + 1) (compH kids (b + 1) ns).1 → Sem C s L n (b + 1) (b + 1 + (compH kids (b + 1) ns).1.length) D) :
  Sem C s L n b (b + (⟨3, i, 0, []⟩ :: (compH kids (b + 1) ns).1 ++ [⟨4, i, 0, []⟩] : List Ins).length) fun a e => (D a e).map fun q => (q.1, q.2.1, (false, i, q.1) :: q.2.2 ++ [(true, i, a)]) := by
 simp only [List.cons_append] at h
 simp only [List.cons_append, List.length_cons, List.length_append, List.length_nil]
 obtain ⟨h7, h8⟩ := h.hd
 obtain ⟨h8, h9⟩ := h8.app
 obtain ⟨h9, _⟩ := h9.hd
 intro a e K ha hl hk
 have t1 := hs h8 a e (fun a' e' => addM (false, i, a') (K a' e')) ha hl fun a' e' hn => by
  have hw := hk a' e' hn
  rw [show b + ((compH kids (b + 1) ns).1.length + (0 + 1) + 1) = b + 1 + (compH kids (b + 1) ns).1.length + 1 by omega] at hw
  exact Way.cls h9 rfl hw
 have key : ∀ l : List Out, addM (true, i, a) (fstD l fun a' e' => addM (false, i, a') (K a' e')) = fstD (l.map fun q => (q.1, q.2.1, (false, i, q.1) :: q.2.2 ++ [(true, i, a)])) K := by
  intro l
  induction l with
  | nil => rfl
  | cons o l ih =>
   rw [fstD, List.map_cons, fstD]
   cases K o.1 o.2.1 with
   | none => exact ih
   | some x => simp [addM]
 have := Way.opn h7 rfl t1
 rw [key] at this
 exact this
mutual
def nst : NT → Nat
 | .node op _ _ kids _ mx => if op = 2 ∨ op = 3 then nstL kids else if op = 5 then nstH kids else if op = 4 then (if mx = 0 then 0 else if mx = -1 then nstH kids + 1 else nstH kids) else 0
def nstH : List NT → Nat
 | [] => 0
 | k :: _ => nst k
def nstL : List NT → Nat
 | [] => 0
 | k :: ks => max (nst k) (nstL ks)
end
mutual
theorem compN_sem (s : List UInt8) (L : Nat) : ∀ t : NT, SemF s L (nst t) (compN t) (denN s t) (nsN t)
 | .node op rs nm kids mn mx => by
  intro C b ns
  rw [compN, nsN]
  by_cases h0 : op = 1
  ·rw [if_pos h0, if_pos h0]
   refine ⟨rfl, fun h => ?_⟩
   obtain ⟨h1, _⟩ := h.hd
   intro a e K ha hl hk
   rw [denN, if_pos h0]
   cases hb : hitB s a rs with
   | false =>
    rw [if_neg (by decide)]
    exact Way.miss0 (by omega) h1 rfl hb
   | true =>
    have hl : a < s.length := by
     rcases Nat.lt_or_ge a s.length with c | c
     ·exact c
     ·unfold hitB at hb
      rw [List.getElem?_eq_none c] at hb
      cases hb
    rw [if_pos rfl, fstD_one]
    exact Way.hit0 (by omega) h1 rfl hb (hk (a + 1) 0 (.inr ⟨by omega, by omega, rfl⟩))
  rw [if_neg h0, if_neg h0]
  by_cases h2 : op = 6
  ·rw [if_pos h2, if_pos h2]
   refine ⟨rfl, fun h => ?_⟩
   obtain ⟨h1, _⟩ := h.hd
   intro a e K ha hl hk
   rw [denN, if_neg h0, if_pos h2]
   by_cases hb : a = 0
   ·rw [if_pos hb, fstD_one]
    exact Way.hit5 h1 rfl hb (hk a e (.inl ⟨rfl, rfl⟩))
   ·rw [if_neg hb]
    exact Way.miss5 (by omega) h1 rfl hb
  rw [if_neg h2, if_neg h2]
  by_cases h3 : op = 7
  ·rw [if_pos h3, if_pos h3]
   refine ⟨rfl, fun h => ?_⟩
   obtain ⟨h1, _⟩ := h.hd
   intro a e K ha hl hk
   rw [denN, if_neg h0, if_neg h2, if_pos h3]
   by_cases hb : a = s.length
   ·rw [if_pos hb, fstD_one]
    exact Way.hit6 h1 rfl hb (hk a e (.inl ⟨rfl, rfl⟩))
   ·rw [if_neg hb]
    exact Way.miss6 (by omega) h1 rfl hb
  rw [if_neg h3, if_neg h3]
  by_cases h4 : op = 2
  ·rw [if_pos h4, if_pos h4]
   refine ⟨(compL_sem s L kids C b ns).1, fun h => ?_⟩
   intro a e K ha hl hk
   rw [nst, if_pos (.inl h4)] at hl
   rw [denN, if_neg h0, if_neg h2, if_neg h3, if_pos h4]
   exact (compL_sem s L kids C b ns).2 h a e K ha hl hk
  rw [if_neg h4, if_neg h4]
  by_cases h5 : op = 3
  ·rw [if_pos h5, if_pos h5]
   refine ⟨(compA_sem s L _ kids C b ns).1, fun h => ?_⟩
   have := (compA_sem s L _ kids C b ns).2 h (congrArg (b + ·) (compA_len 0 _ kids b ns))
   rw [compA_len 0 (b + (compA 0 kids b ns).1.length) kids b ns] at this
   intro a e K ha hl hk
   rw [nst, if_pos (.inr h5)] at hl
   rw [denN, if_neg h0, if_neg h2, if_neg h3, if_neg h4, if_pos h5]
   exact this a e K ha hl hk
  rw [if_neg h5, if_neg h5]
  by_cases h6 : op = 5
  ·rw [if_pos h6, if_pos h6]
   refine ⟨(compH_sem s L kids C (b + 1) (capL ns nm)).1, fun h => ?_⟩
   have := capH kids b (capL ns nm) (capI ns nm) C s L (nstH kids) _ h (compH_sem s L kids C (b + 1) (capL ns nm)).2
   intro a e K ha hl hk
   rw [nst, if_neg (by omega), if_pos h6] at hl
   rw [denN, if_neg h0, if_neg h2, if_neg h3, if_neg h4, if_neg h5, if_pos h6]
   exact this a e K ha hl hk
  rw [if_neg h6, if_neg h6]
  by_cases h7 : op = 4
  ·rw [if_pos h7, if_pos h7]
   by_cases h8 : mx = 0
   ·rw [if_pos h8, if_pos h8]
    refine ⟨rfl, fun h => ?_⟩
    intro a e K ha hl hk
    rw [denN, if_neg h0, if_neg h2, if_neg h3, if_neg h4, if_neg h5, if_neg h6, if_pos h7, if_pos h8]
    exact Sem.refl C s L 0 b a e K ha (by omega) hk
   ·rw [if_neg h8, if_neg h8]
    have hr := rept_sem (compH_sem s L kids) mn mx C b ns
    refine ⟨hr.1, fun h => ?_⟩
    intro a e K ha hl hk
    rw [nst, if_neg (by omega), if_neg h6, if_pos h7, if_neg h8] at hl
    rw [denN, if_neg h0, if_neg h2, if_neg h3, if_neg h4, if_neg h5, if_neg h6, if_pos h7, if_neg h8]
    exact hr.2 h a e K ha hl hk
  ·rw [if_neg h7, if_neg h7]
   refine ⟨rfl, fun h => ?_⟩
   intro a e K ha hl hk
   rw [denN, if_neg h0, if_neg h2, if_neg h3, if_neg h4, if_neg h5, if_neg h6, if_neg h7]
   exact Sem.refl C s L 0 b a e K ha (by omega) hk
theorem compH_sem (s : List UInt8) (L : Nat) : ∀ ks : List NT, SemF s L (nstH ks) (compH ks) (denH s ks) (nsH ks)
 | [] => by
  intro C b ns
  rw [compH, nsH]
  refine ⟨rfl, fun _ => ?_⟩
  intro a e K ha hl hk
  rw [denH]
  exact Sem.refl C s L 0 b a e K ha (by omega) hk
 | k :: ks => by
  intro C b ns
  rw [compH, nsH]
  refine ⟨(compN_sem s L k C b ns).1, fun h => ?_⟩
  intro a e K ha hl hk
  rw [denH]
  rw [nstH] at hl
  exact (compN_sem s L k C b ns).2 h a e K ha hl hk
theorem compL_sem (s : List UInt8) (L : Nat) : ∀ ks : List NT, SemF s L (nstL ks) (compL ks) (denL s ks) (nsL ks)
 | [] => by
  intro C b ns
  rw [compL, nsL]
  refine ⟨rfl, fun _ => ?_⟩
  intro a e K ha hl hk
  rw [denL]
  exact Sem.refl C s L 0 b a e K ha (by omega) hk
 | k :: ks => by
  intro C b ns
  have h1 := compN_sem s L k C b ns
  have h2 := compL_sem s L ks C (b + (compN k b ns).1.length) (compN k b ns).2
  rw [h1.1] at h2
  rw [compL, nsL]
  refine ⟨?_, fun h => ?_⟩
  ·simp only
   rw [h1.1]
   exact h2.1
  ·simp only at h ⊢
   rw [h1.1] at h ⊢
   obtain ⟨h3, h4⟩ := h.app
   have := ((h1.2 h3).mono (Nat.le_max_left _ (nstL ks))).trans ((h2.2 h4).mono (Nat.le_max_right (nst k) _))
   rw [List.length_append, ← Nat.add_assoc]
   intro a e K ha hl hk
   rw [denL]
   rw [nstL] at hl
   exact this a e K ha hl hk
theorem compA_sem (s : List UInt8) (L E : Nat) : ∀ ks : List NT, ∀ C b ns, (compA E ks b ns).2 = nsL ks ns ∧ (Lies C b (compA E ks b ns).1 → E = b + (compA E ks b ns).1.length → Sem C s L (nstL ks) b E (denA s ks ns))
 | [], C, b, ns => by
  rw [compA, nsL]
  refine ⟨rfl, fun _ hE => ?_⟩
  simp only [List.length_nil, Nat.add_zero] at hE
  rw [hE]
  intro a e K ha hl hk
  rw [denA]
  exact Sem.refl C s L 0 b a e K ha (by omega) hk
 | [k], C, b, ns => by
  rw [compA, nsL, nsL]
  refine ⟨(compN_sem s L k C b ns).1, fun h hE => ?_⟩
  rw [hE]
  intro a e K ha hl hk
  rw [denA]
  rw [nstL, nstL] at hl
  exact (compN_sem s L k C b ns).2 h a e K ha (by omega) hk
 | k :: k2 :: ks, C, b, ns => by
  have h1 := compN_sem s L k C (b + 1) ns
  have h2 := compA_sem s L E (k2 :: ks) C (b + 1 + (compN k (b + 1) ns).1.length + 1) (compN k (b + 1) ns).2
  rw [compA_two, nsL]
  rw [h1.1] at h2
  refine ⟨?_, fun h hE => ?_⟩
  ·simp only
   rw [h1.1]
   exact h2.1
  ·simp only [List.cons_append] at h
   simp only [List.cons_append, List.length_cons, List.length_append] at hE
   rw [h1.1] at h hE
   obtain ⟨h3, h4⟩ := h.hd
   obtain ⟨h4, h5⟩ := h4.app
   obtain ⟨h5, h6⟩ := h5.hd
   have t1 := h1.2 h4
   have t2 := h2.2 h6 (by omega)
   intro a e K ha hl hk
   have hden : denA s (k :: k2 :: ks) ns a e = denN s k ns a e ++ denA s (k2 :: ks) (nsN k ns) a e := by
    rw [denA]
    intro h
    cases h
   rw [hden, fstD_app]
   rw [nstL] at hl
   exact Way.split h3 rfl (t1 a e K ha (by omega) fun a' e' hn => Way.jump h5 rfl (hk a' e' hn)) (t2 a e K ha (by omega) hk)
end
end Go.Proofs.YtmpbjaodgajnfaaGreatDoor.Mt
namespace Go.Proofs.YtmpbjaodgajnfaaGreatDoor.Mt
def shM (c : Nat) (m : Mk) : Mk := (m.1, m.2.1 + c, m.2.2)
def shO (c : Nat) (o : Out) : Out := (o.1, o.2.1, o.2.2.map (shM c))
def ShF (bs : List Nm) (D : List Nm → Nat → Nat → List Out) (fn : List Nm → List Nm) : Prop := ∀ ns, fn (bs ++ ns) = bs ++ fn ns ∧ ∀ a e, D (bs ++ ns) a e = (D ns a e).map (shO bs.length)
section
variable {bs : List Nm} {D : List Nm → Nat → Nat → List Out} {fn : List Nm → List Nm} (h : ShF bs D fn)
include h
end
end Go.Proofs.YtmpbjaodgajnfaaGreatDoor.Mt
namespace Go.Proofs.YtmpbjaodgajnfaaGreatDoor.Mt
def LtM (n : Nat) (l : List Out) : Prop := ∀ o ∈ l, ∀ m ∈ o.2.2, m.2.1 < n
theorem LtM.mono {n n' : Nat} {l : List Out} (h : LtM n l) (hn : n ≤ n') : LtM n' l := fun o ho m hm => Nat.lt_of_lt_of_le (h o ho m hm) hn
theorem LtM.app {n : Nat} {l m : List Out} (h : LtM n l) (k : LtM n m) : LtM n (l ++ m) := fun o ho => (List.mem_append.1 ho).elim (h o) (k o)
theorem LtM.one (n a e : Nat) : LtM n [(a, e, [])] := fun o ho m hm => by
 rw [List.mem_singleton] at ho
 subst ho
 cases hm
theorem LtM.nil (n : Nat) : LtM n [] := fun o ho => by cases ho
theorem LtM.seq {n : Nat} {l : List Out} {g : Nat → Nat → List Out} (h : LtM n l) (k : ∀ a e, LtM n (g a e)) : LtM n (seqD l g) := fun o ho m hm => by
 unfold seqD at ho
 rw [List.mem_flatMap] at ho
 obtain ⟨p, hp, ho⟩ := ho
 rw [List.mem_map] at ho
 obtain ⟨q, hq, rfl⟩ := ho
 rcases List.mem_append.1 hm with hm | hm
 ·exact k _ _ q hq m hm
 ·exact h p hp m hm
theorem LtM.filter {n : Nat} {l : List Out} (h : LtM n l) (p : Out → Bool) : LtM n (l.filter p) := fun o ho => h o (List.mem_filter.1 ho).1
theorem capL_le (ns : List Nm) (nm : Nm) : ns.length ≤ (capL ns nm).length := by
 unfold capL
 split
 ·exact Nat.le_refl _
 ·simp
theorem capI_lt (ns : List Nm) (nm : Nm) : capI ns nm < (capL ns nm).length := by
 unfold capI capL
 cases h : ns.findIdx? (· == nm) with
 | some i =>
  have hi : i < ns.length := (List.findIdx?_eq_some_iff_getElem.1 h).1
  split
  ·exact hi
  ·simp only [Option.getD_some, List.length_append]
   omega
 | none =>
  rw [List.findIdx?_eq_none_iff] at h
  have hc : ns.contains nm = false := by
   rw [Bool.eq_false_iff]
   intro hc
   simp only [List.contains_eq_mem, decide_eq_true_iff] at hc
   have := h nm hc
   simp at this
  rw [if_neg (by rw [hc]; decide)]
  simp
def MkF (D : List Nm → Nat → Nat → List Out) (fn : List Nm → List Nm) : Prop := ∀ ns, ns.length ≤ (fn ns).length ∧ ∀ a e, LtM (fn ns).length (D ns a e)
section
variable {D : List Nm → Nat → Nat → List Out} {fn : List Nm → List Nm} (h : MkF D fn)
include h
theorem timesN_le : ∀ n ns, ns.length ≤ (timesN fn n ns).length
 | 0, _ => Nat.le_refl _
 | n + 1, ns => Nat.le_trans (h ns).1 (timesN_le n (fn ns))
theorem timesD_mk : ∀ n ns a e, LtM (timesN fn n ns).length (timesD D fn n ns a e)
 | 0, _, a, e => LtM.one _ a e
 | n + 1, ns, a, e => LtM.seq (((h ns).2 a e).mono (timesN_le h n (fn ns))) fun a e => timesD_mk n (fn ns) a e
theorem optsD_mk : ∀ n ns a e, LtM (timesN fn n ns).length (optsD D fn n ns a e)
 | 0, _, a, e => LtM.one _ a e
 | n + 1, ns, a, e => LtM.app (LtM.seq (((h ns).2 a e).mono (timesN_le h n (fn ns))) fun a e => optsD_mk n (fn ns) a e) (LtM.one _ a e)
theorem starD_mk (ns : List Nm) : ∀ m a e, LtM (fn ns).length (starD D ns m a e)
 | 0, a, e => LtM.one _ a e
 | m + 1, a, e => LtM.app (LtM.seq (((h ns).2 a (e + 1)).filter _) fun a e => starD_mk ns m a e) (LtM.one _ a e)
theorem reptD_mk (s : List UInt8) (mn mx : Int) (ns : List Nm) (a e : Nat) : LtM (if mx = -1 then fn (timesN fn mn.toNat ns) else timesN fn (mx - mn).toNat (timesN fn mn.toNat ns)).length (reptD D fn s mn mx ns a e) := by
 unfold reptD
 split
 ·exact LtM.seq ((timesD_mk h _ ns a e).mono (h _).1) fun a e => starD_mk h _ _ a e
 ·exact LtM.seq ((timesD_mk h _ ns a e).mono (timesN_le h _ _)) fun a e => optsD_mk h _ _ a e
end
mutual
theorem capsN_le : ∀ (t : NT) (ns : List Nm), ns.length ≤ (capsN t ns).length
 | .node op rs nm kids mn mx, ns => by
  rw [capsN]
  split
  ·exact Nat.le_trans (capL_le ns nm) (capsL_le kids _)
  ·exact capsL_le kids _
theorem capsL_le : ∀ (ks : List NT) (ns : List Nm), ns.length ≤ (capsL ks ns).length
 | [], ns => by rw [capsL]; exact Nat.le_refl _
 | k :: ks, ns => by rw [capsL]; exact Nat.le_trans (capsN_le k ns) (capsL_le ks _)
end
mutual
theorem denN_mk (s : List UInt8) : ∀ t : NT, MkF (denN s t) (nsN t)
 | .node op rs nm kids mn mx => by
  have hH := denH_mk s kids
  have hL := denL_mk s kids
  intro ns
  rw [nsN]
  by_cases h0 : op = 1
  ·rw [if_pos h0]
   refine ⟨Nat.le_refl _, fun a e => ?_⟩
   rw [denN, if_pos h0]
   split
   ·exact LtM.one _ _ _
   ·exact LtM.nil _
  rw [if_neg h0]
  by_cases h2 : op = 6
  ·rw [if_pos h2]
   refine ⟨Nat.le_refl _, fun a e => ?_⟩
   rw [denN, if_neg h0, if_pos h2]
   split
   ·exact LtM.one _ _ _
   ·exact LtM.nil _
  rw [if_neg h2]
  by_cases h3 : op = 7
  ·rw [if_pos h3]
   refine ⟨Nat.le_refl _, fun a e => ?_⟩
   rw [denN, if_neg h0, if_neg h2, if_pos h3]
   split
   ·exact LtM.one _ _ _
   ·exact LtM.nil _
  rw [if_neg h3]
  by_cases h4 : op = 2
  ·rw [if_pos h4]
   refine ⟨(hL ns).1, fun a e => ?_⟩
   rw [denN, if_neg h0, if_neg h2, if_neg h3, if_pos h4]
   exact (hL ns).2 a e
  rw [if_neg h4]
  by_cases h5 : op = 3
  ·rw [if_pos h5]
   refine ⟨(hL ns).1, fun a e => ?_⟩
   rw [denN, if_neg h0, if_neg h2, if_neg h3, if_neg h4, if_pos h5]
   exact denA_mk s kids ns a e
  rw [if_neg h5]
  by_cases h6 : op = 5
  ·rw [if_pos h6]
   refine ⟨Nat.le_trans (capL_le ns nm) (hH _).1, fun a e => ?_⟩
   rw [denN, if_neg h0, if_neg h2, if_neg h3, if_neg h4, if_neg h5, if_pos h6]
   intro o ho m hm
   rw [List.mem_map] at ho
   obtain ⟨q, hq, rfl⟩ := ho
   have hlt := Nat.lt_of_lt_of_le (capI_lt ns nm) (hH (capL ns nm)).1
   simp only [List.cons_append, List.mem_cons, List.mem_append, List.not_mem_nil, or_false] at hm
   rcases hm with rfl | hm | rfl
   ·exact hlt
   ·exact (hH _).2 a e q hq m hm
   ·exact hlt
  rw [if_neg h6]
  by_cases h7 : op = 4
  ·rw [if_pos h7]
   by_cases h8 : mx = 0
   ·rw [if_pos h8]
    refine ⟨capsL_le _ ns, fun a e => ?_⟩
    rw [denN, if_neg h0, if_neg h2, if_neg h3, if_neg h4, if_neg h5, if_neg h6, if_pos h7, if_pos h8]
    exact LtM.one _ _ _
   ·rw [if_neg h8]
    refine ⟨?_, fun a e => ?_⟩
    ·split
     ·exact Nat.le_trans (timesN_le hH _ ns) (hH _).1
     ·exact Nat.le_trans (timesN_le hH _ ns) (timesN_le hH _ _)
    ·rw [denN, if_neg h0, if_neg h2, if_neg h3, if_neg h4, if_neg h5, if_neg h6, if_pos h7, if_neg h8]
     exact reptD_mk hH s mn mx ns a e
  ·rw [if_neg h7]
   refine ⟨Nat.le_refl _, fun a e => ?_⟩
   rw [denN, if_neg h0, if_neg h2, if_neg h3, if_neg h4, if_neg h5, if_neg h6, if_neg h7]
   exact LtM.one _ _ _
theorem denH_mk (s : List UInt8) : ∀ ks : List NT, MkF (denH s ks) (nsH ks)
 | [], ns => by
  rw [nsH]
  refine ⟨Nat.le_refl _, fun a e => ?_⟩
  rw [denH]
  exact LtM.one _ _ _
 | k :: ks, ns => by
  rw [nsH]
  refine ⟨(denN_mk s k ns).1, fun a e => ?_⟩
  rw [denH]
  exact (denN_mk s k ns).2 a e
theorem denL_mk (s : List UInt8) : ∀ ks : List NT, MkF (denL s ks) (nsL ks)
 | [], ns => by
  rw [nsL]
  refine ⟨Nat.le_refl _, fun a e => ?_⟩
  rw [denL]
  exact LtM.one _ _ _
 | k :: ks, ns => by
  have h1 := denN_mk s k ns
  have h2 := denL_mk s ks (nsN k ns)
  rw [nsL]
  refine ⟨Nat.le_trans h1.1 h2.1, fun a e => ?_⟩
  rw [denL]
  exact LtM.seq ((h1.2 a e).mono h2.1) fun a e => h2.2 a e
theorem denA_mk (s : List UInt8) : ∀ (ks : List NT) (ns : List Nm) (a e : Nat), LtM (nsL ks ns).length (denA s ks ns a e)
 | [], ns, a, e => by
  rw [denA]
  exact LtM.one _ _ _
 | [k], ns, a, e => by
  rw [denA, nsL, nsL]
  exact (denN_mk s k ns).2 a e
 | k :: k2 :: ks, ns, a, e => by
  have hd : denA s (k :: k2 :: ks) ns a e = denN s k ns a e ++ denA s (k2 :: ks) (nsN k ns) a e := by
   rw [denA]
   intro h
   cases h
  rw [hd, nsL]
  exact LtM.app (((denN_mk s k ns).2 a e).mono (denL_mk s (k2 :: ks) _).1) (denA_mk s (k2 :: ks) _ a e)
end
def cntM (n : Nat) (ms : List Mk) : Nat := ((List.range n).filter fun i => (fstM ms true i).isSome && (fstM ms false i).isSome).length
end Go.Proofs.YtmpbjaodgajnfaaGreatDoor.Mt
namespace Go.Proofs.YtmpbjaodgajnfaaGreatDoor.Mt
def progN (t : NT) (end_ : Bool) : List Ins := (compN t 0 []).1 ++ (if end_ = true then [⟨6, 0, 0, []⟩, ⟨9, 0, 0, []⟩] else [⟨9, 0, 0, []⟩])
def matR (s : List UInt8) (t : NT) (end_ : Bool) (a : Nat) : Res := fstD (denN s t [] a 0) fun a' _ => if end_ = true ∧ a' ≠ s.length then none else some (a', [])
theorem progN_way (s : List UInt8) (t : NT) (end_ : Bool) (a : Nat) (ha : a ≤ s.length) (L : Nat) (hL : nst t ≤ L) : Way (progN t end_) s L 0 a 0 (matR s t end_ a) := by
 have hl : Lies (progN t end_) 0 (progN t end_) := fun k hk => by rw [Nat.zero_add]; exact List.getElem?_eq_getElem hk
 obtain ⟨C, hC⟩ : ∃ C, progN t end_ = C := ⟨_, rfl⟩
 rw [show Lies (progN t end_) 0 (progN t end_) = Lies C 0 (progN t end_) by rw [hC]] at hl
 rw [hC]
 clear hC
 unfold progN at hl
 obtain ⟨h1, h2⟩ := hl.app
 refine (compN_sem s L t _ 0 []).2 h1 a 0 _ ha (by omega) fun a' e' hn => ?_
 have he : e' ≤ L := by have := hn.lt; omega
 cases end_ with
 | false =>
  rw [if_neg (by decide)] at h2
  rw [if_neg (by rintro ⟨h, _⟩; cases h)]
  exact Way.fin he h2.hd.1 rfl
 | true =>
  rw [if_pos rfl] at h2
  obtain ⟨h3, h4⟩ := h2.hd
  by_cases hb : a' = s.length
  ·rw [if_neg (fun h => h.2 hb)]
   exact Way.hit6 h3 rfl hb (Way.fin he h4.hd.1 rfl)
  ·rw [if_pos ⟨rfl, hb⟩]
   exact Way.miss6 he h3 rfl hb
end Go.Proofs.YtmpbjaodgajnfaaGreatDoor.Mt
namespace Go.Proofs.YtmpbjaodgajnfaaGreatDoor
open Go.RowKit
end Go.Proofs.YtmpbjaodgajnfaaGreatDoor
namespace Go.Proofs.YtmpbjaodgajnfaaGreatDoor
open Go.RowKit
def okR (rs : List (UInt8 × UInt8)) (i : Nat) (h : i < rs.length) : Prop := rs[i].1.toNat ≤ rs[i].2.toNat ∧ (0 < i → rs[i - 1].2.toNat + 1 < rs[i].1.toNat)
noncomputable def srtB (rs : List (UInt8 × UInt8)) : Bool := @decide (0 < rs.length ∧ ∀ i (h : i < rs.length), okR rs i h) (Classical.propDecidable _)
theorem srtB_yes {rs : List (UInt8 × UInt8)} (h : 0 < rs.length ∧ ∀ i (h : i < rs.length), okR rs i h) : srtB rs = true := by unfold srtB; exact @decide_eq_true _ (Classical.propDecidable _) h
theorem srtB_no {rs : List (UInt8 × UInt8)} (h : ¬ (0 < rs.length ∧ ∀ i (h : i < rs.length), okR rs i h)) : srtB rs = false := by unfold srtB; exact @decide_eq_false _ (Classical.propDecidable _) h
set_option maxRecDepth 100000 in
set_option maxHeartbeats 2000000 in
theorem right_any (rs : List (UInt8 × UInt8)) (v : Value) (w : World) (h : RgAt w rs v) :
  Calls Tryz.prog 131 #[v] w fun e w' => e = .returned (.bool (srtB rs)) ∧ Below w.heap.size w w' := by
 obtain ⟨a, c, rfl, hm, hk⟩ := h
 have HK := Lib.hid hk
 obtain ⟨B, hB⟩ : ∃ B, srtB rs = B := ⟨_, rfl⟩
 have HY := Lib.hid fun (h : 0 < rs.length ∧ ∀ i (h : i < rs.length), okR rs i h) => show true = B by rw [← hB, srtB_yes h]
 have HN := Lib.hid fun (h : ¬ (0 < rs.length ∧ ∀ i (h : i < rs.length), okR rs i h)) => show false = B by rw [← hB, srtB_no h]
 rw [hB]
 clear hk hB
 go_enter Tryz.func131, Tryz.ntmps131
 go_wp2_with fail
 go_loopw [7] (fun i wr => ∃ k : Nat, i = .int .i64 k ∧ k ≤ rs.length ∧ Hid (∀ i (h : i < rs.length), i < k → okR rs i h) ∧ Below w.heap.size w wr) (fun i _ => rs.length - (intOf i).toNat)
 case atStart => exact ⟨0, rfl, by omega, Lib.hid (fun _ _ h => by omega), Below.refl _ _⟩
 case round =>
  obtain ⟨k, rfl, hkl, hok, hb⟩ := hrel
  have HB := Lib.hid hb
  by_cases hlt : k < rs.length
  ·obtain ⟨blk, off, rfl, hl, c0, c1⟩ := HK.out k hlt
   have e0 := (hb.cell (p := ⟨blk, off + k * 2, none⟩) hl).trans c0
   have e1 := (hb.cell (p := ⟨blk, off + k * 2 + 1, none⟩) hl).trans c1
   have i1 : (k : Int) < (rs.length : Int) := by omega
   have i2 : (0 : Int) ≤ (k : Int) := by omega
   have hlw : blk < wr.heap.size := Nat.lt_of_lt_of_le hl hb.size
   have HOK := Lib.hid (show okR rs k hlt ↔ (rs[k].1.toNat ≤ rs[k].2.toNat ∧ (0 < k → rs[k - 1].2.toNat + 1 < rs[k].1.toNat)) from Iff.rfl)
   have hlo := rs[k].1.toNat_lt
   have hhi := rs[k].2.toNat_lt
   have HPV : Hid (0 < k → ∃ p : Nat, rs[k - 1].2.toNat = p ∧ p < 256 ∧ wr.cell? ⟨blk, off + (k - 1) * 2 + 1, none⟩ = some (.int .u8 (p : Int))) := Lib.hid (fun h0 => by
    obtain ⟨blk', off', e, _, _, c1'⟩ := HK.out (k - 1) (by omega)
    simp only [Option.some.injEq, Addr.mk.injEq, and_true] at e
    obtain ⟨rfl, rfl⟩ := e
    exact ⟨_, rfl, rs[k - 1].2.toNat_lt, (hb.cell (p := ⟨blk, off + (k - 1) * 2 + 1, none⟩) hl).trans c1'⟩)
   obtain ⟨lo, hlo1⟩ : ∃ lo, rs[k].1.toNat = lo := ⟨_, rfl⟩
   obtain ⟨hi, hhi1⟩ : ∃ hi, rs[k].2.toNat = hi := ⟨_, rfl⟩
   rw [hlo1] at e0 hlo HOK
   rw [hhi1] at e1 hhi HOK
   have HBA := Lib.hid (hb.alloc hb.size (.cells #[.int .u8 lo, .int .u8 hi] 187))
   clear c0 c1 hlo1 hhi1 hb
   by_cases h1 : lo ≤ hi
   ·have z1 : decide ((hi : Int) < (lo : Int)) = false := decide_eq_false (by omega)
    by_cases h2 : 0 < k
    ·obtain ⟨p, hp1, hp2, hp3⟩ := HPV.out h2
     have z2 : decide ((0 : Int) < (k : Int)) = true := decide_eq_true (by omega)
     have j1 : ((k : Int) - 1) < (rs.length : Int) := by omega
     have j4 : (1 : Int) ≤ (k : Int) := by omega
     have j5 : (k : Int) ≤ (rs.length : Int) := by omega
     have j6 : 1 ≤ k := h2
     have j2 : (0 : Int) ≤ (k : Int) - 1 := by omega
     have j3 : ((k : Int) - 1).toNat = k - 1 := by omega
     rw [hp1] at HOK
     clear hp1 HPV
     by_cases h3 : p + 1 < lo
     ·have z3 : decide ((lo : Int) ≤ (p : Int) + 1) = false := decide_eq_false (by omega)
      have HO : Hid (∀ i (h : i < rs.length), i < k + 1 → okR rs i h) := Lib.hid (fun i h hi' => by
       by_cases e : i = k
       ·subst e; exact HOK.out.2 ⟨h1, fun _ => h3⟩
       ·exact hok.out i h (by omega))
      have z4 : decide (hi < lo) = false := decide_eq_false (by omega)
      have s3 : IntKind.i64.wrap (lo : Int) = (lo : Int) := IntWalk.i64_in _ (by omega)
      have s4 : IntKind.i64.wrap (p : Int) = (p : Int) := IntWalk.i64_in _ (by omega)
      have s1 : IntKind.i64.wrap ((k : Int) - 1) = (k : Int) - 1 := IntWalk.i64_in _ (by omega)
      have s2 : IntKind.i64.wrap ((p : Int) + 1) = (p : Int) + 1 := IntWalk.i64_in _ (by omega)
      go_wp2_with fail
      go_quiet (fail)
      clear s1 s2 s3 s4
      go_wp2_with fail
      go_roundw
      case rel => exact ⟨k + 1, by go_num, by omega, HO, below_drewN HBA.out _⟩
      case measure => simp [intOf]; omega
     ·have z3 : decide ((lo : Int) ≤ (p : Int) + 1) = true := decide_eq_true (by omega)
      have HX : Hid (false = B) := Lib.hid (HN.out fun h => h3 ((HOK.out.1 (h.2 k hlt)).2 h2))
      have z4 : decide (hi < lo) = false := decide_eq_false (by omega)
      have s3 : IntKind.i64.wrap (lo : Int) = (lo : Int) := IntWalk.i64_in _ (by omega)
      have s4 : IntKind.i64.wrap (p : Int) = (p : Int) := IntWalk.i64_in _ (by omega)
      have s1 : IntKind.i64.wrap ((k : Int) - 1) = (k : Int) - 1 := IntWalk.i64_in _ (by omega)
      have s2 : IntKind.i64.wrap ((p : Int) + 1) = (p : Int) + 1 := IntWalk.i64_in _ (by omega)
      go_wp2_with fail
      go_quiet (fail)
      clear s1 s2 s3 s4
      go_wp2_with fail
      go_ret
      exact ⟨ret_bool HX.out, below_drewN HBA.out _⟩
    ·have z2 : decide ((0 : Int) < (k : Int)) = false := decide_eq_false (by omega)
     have HO : Hid (∀ i (h : i < rs.length), i < k + 1 → okR rs i h) := Lib.hid (fun i h hi' => by
      by_cases e : i = k
      ·subst e; exact HOK.out.2 ⟨h1, fun h => absurd h h2⟩
      ·exact hok.out i h (by omega))
     have z4 : decide (hi < lo) = false := decide_eq_false (by omega)
     go_wp2_with fail
     go_quiet (fail)
     clear z4
     go_wp2_with fail
     go_roundw
     case rel => exact ⟨k + 1, by go_num, by omega, HO, below_drewN HBA.out _⟩
     case measure => simp [intOf]; omega
   ·have z1 : decide ((hi : Int) < (lo : Int)) = true := decide_eq_true (by omega)
    have z4 : decide (hi < lo) = true := decide_eq_true (by omega)
    have HX : Hid (false = B) := Lib.hid (HN.out fun h => h1 (HOK.out.1 (h.2 k hlt)).1)
    go_wp2_with fail
    go_quiet (fail)
    clear z4
    go_wp2_with fail
    go_ret
    exact ⟨ret_bool HX.out, below_drewN HBA.out _⟩
  ·obtain rfl : k = rs.length := by omega
   by_cases h0 : 0 < rs.length
   ·have HX : Hid (true = B) := Lib.hid (HY.out ⟨h0, fun i h => hok.out i h h⟩)
    have z0 : decide ((0 : Int) < (rs.length : Int)) = true := decide_eq_true (by omega)
    go_wp2_with fail
    go_ret
    exact ⟨ret_bool HX.out, HB.out⟩
   ·have HX : Hid (false = B) := Lib.hid (HN.out fun h => h0 h.1)
    have z0 : decide ((0 : Int) < (rs.length : Int)) = false := decide_eq_false (by omega)
    go_wp2_with fail
    go_ret
    exact ⟨ret_bool HX.out, HB.out⟩
end Go.Proofs.YtmpbjaodgajnfaaGreatDoor
namespace Go.Proofs.YtmpbjaodgajnfaaGreatDoor
open Go.RowKit
namespace Asc
def isDigit (c : Nat) : Bool := decide (48 ≤ c ∧ c ≤ 57)
def isLetter (c : Nat) : Bool := decide (97 ≤ c ∧ c ≤ 122 ∨ 65 ≤ c ∧ c ≤ 90)
def isSpace (c : Nat) : Bool := decide (c = 32 ∨ c = 9)
def isWord (c : Nat) : Bool := isDigit c || isLetter c || decide (c = 95)
def kind (c : Nat) : Nat := if isDigit c then 1 else if isLetter c then 2 else if isSpace c then 4 else 0
def kTab : List Int := (List.range 256).map fun c => (kind c : Int)
theorem kTab_at (c : Nat) (h : c < 256) : kTab.getD c 0 = (kind c : Nat) := by
 unfold kTab
 simp [List.getD, h]
theorem kind_cases (c : Nat) : (kind c = 1 ∧ isDigit c = true ∧ isLetter c = false ∧ isSpace c = false) ∨ (kind c = 2 ∧ isDigit c = false ∧ isLetter c = true ∧ isSpace c = false) ∨
  (kind c = 4 ∧ isDigit c = false ∧ isLetter c = false ∧ isSpace c = true) ∨ (kind c = 0 ∧ isDigit c = false ∧ isLetter c = false ∧ isSpace c = false) := by
 unfold kind
 by_cases h1 : isDigit c = true
 ·refine .inl ⟨by rw [if_pos h1], h1, ?_, ?_⟩
  ·unfold isDigit at h1; unfold isLetter; simp at h1 ⊢; omega
  ·unfold isDigit at h1; unfold isSpace; simp at h1 ⊢; omega
 ·rw [if_neg h1]
  by_cases h2 : isLetter c = true
  ·refine .inr (.inl ⟨by rw [if_pos h2], by simpa using h1, h2, ?_⟩)
   unfold isLetter at h2; unfold isSpace; simp at h2 ⊢; omega
  ·rw [if_neg h2]
   by_cases h3 : isSpace c = true
   ·exact .inr (.inr (.inl ⟨by rw [if_pos h3], by simpa using h1, by simpa using h2, h3⟩))
   ·exact .inr (.inr (.inr ⟨by rw [if_neg h3], by simpa using h1, by simpa using h2, by simpa using h3⟩))
end Asc
def Kinds (w : World) : Prop := 1 < w.heap.size ∧ ∀ c, c < 256 → w.cell? ⟨1, c, none⟩ = some (.int .u8 (Asc.kind c : Nat))
theorem Kinds.below {w w' : World} (h : Kinds w) (hb : Below w.heap.size w w') : Kinds w' :=
 ⟨Nat.lt_of_lt_of_le h.1 hb.size, fun c hc => (hb.cell (p := ⟨1, c, none⟩) h.1).trans (h.2 c hc)⟩
theorem Kinds.alloc {w : World} (h : Kinds w) (o : Obj) : Kinds (w.alloc o) := h.below ((Below.refl _ _).alloc (Nat.le_refl _) o)
theorem digit_any (c : Nat) (w : World) (hc : c < 256) (hk : Kinds w) :
  Calls Tryz.prog 170 #[.int .u8 c] w fun e w' => e = .returned (.bool (Asc.isDigit c)) ∧ w = w' := by
 have h := hk.2 c hc
 clear hk
 rcases Asc.kind_cases c with ⟨k, d, l, s⟩ | ⟨k, d, l, s⟩ | ⟨k, d, l, s⟩ | ⟨k, d, l, s⟩
 all_goals
  rw [k] at h
  rw [d]
  clear k d l s
  go_enter Tryz.func170, Tryz.ntmps170
  go_wp2_with fail
  go_ret
  exact ⟨by first | rfl | decide, rfl⟩
theorem letter_any (c : Nat) (w : World) (hc : c < 256) (hk : Kinds w) :
  Calls Tryz.prog 157 #[.int .u8 c] w fun e w' => e = .returned (.bool (Asc.isLetter c)) ∧ w = w' := by
 have h := hk.2 c hc
 clear hk
 rcases Asc.kind_cases c with ⟨k, d, l, s⟩ | ⟨k, d, l, s⟩ | ⟨k, d, l, s⟩ | ⟨k, d, l, s⟩
 all_goals
  rw [k] at h
  rw [l]
  clear k d l s
  go_enter Tryz.func157, Tryz.ntmps157
  go_wp2_with fail
  go_ret
  exact ⟨by first | rfl | decide, rfl⟩
theorem space_any (c : Nat) (w : World) (hc : c < 256) (hk : Kinds w) :
  Calls Tryz.prog 171 #[.int .u8 c] w fun e w' => e = .returned (.bool (Asc.isSpace c)) ∧ w = w' := by
 have h := hk.2 c hc
 clear hk
 rcases Asc.kind_cases c with ⟨k, d, l, s⟩ | ⟨k, d, l, s⟩ | ⟨k, d, l, s⟩ | ⟨k, d, l, s⟩
 all_goals
  rw [k] at h
  rw [s]
  clear k d l s
  go_enter Tryz.func171, Tryz.ntmps171
  go_wp2_with fail
  go_ret
  exact ⟨by first | rfl | decide, rfl⟩
theorem word_any (c : Nat) (w : World) (hc : c < 256) (hk : Kinds w) :
  Calls Tryz.prog 158 #[.int .u8 c] w fun e w' => e = .returned (.bool (Asc.isWord c)) ∧ w = w' := by
 have h := hk.2 c hc
 clear hk
 rcases Asc.kind_cases c with ⟨k, d, l, s⟩ | ⟨k, d, l, s⟩ | ⟨k, d, l, s⟩ | ⟨k, d, l, s⟩
 all_goals
  rw [k] at h
  have hf : Asc.isWord c = (Asc.isDigit c || Asc.isLetter c || decide (c = 95)) := rfl
  rw [d, l] at hf
  simp only [Bool.true_or, Bool.or_true, Bool.false_or] at hf
  rw [hf]
  clear k d l s hf
  go_enter Tryz.func158, Tryz.ntmps158
  go_wp2_with fail
  go_ret
  exact ⟨by first | rfl | decide | exact ret_bool (by rw [Bool.eq_iff_iff]; simp; omega), rfl⟩
end Go.Proofs.YtmpbjaodgajnfaaGreatDoor
namespace Go.Proofs.YtmpbjaodgajnfaaGreatDoor
open Go.RowKit
def nlen (l : List UInt8) : Nat := match l with
 | [] => 0
 | c :: t => if Asc.isLetter c.toNat = true then (if 32 < 1 + (t.takeWhile fun x => Asc.isWord x.toNat).length then 0 else 1 + (t.takeWhile fun x => Asc.isWord x.toNat).length) else 0
theorem tw_len {t : List UInt8} {k : Nat} (hk : k ≤ t.length) (h : ∀ i (h : i < t.length), i < k → Asc.isWord (t[i]).toNat = true) (hs : ∀ h : k < t.length, Asc.isWord (t[k]).toNat = false) : (t.takeWhile fun x => Asc.isWord x.toNat).length = k := by
 induction t generalizing k with
 | nil => simp at hk; subst hk; rfl
 | cons c t ih =>
  cases k with
  | zero =>
   have := hs (by simp)
   simp only [List.getElem_cons_zero] at this
   rw [List.takeWhile_cons, this]
   rfl
  | succ k =>
   have h0 := h 0 (by simp) (by omega)
   simp only [List.getElem_cons_zero] at h0
   rw [List.takeWhile_cons, if_pos h0, List.length_cons, ih (k := k) (by simpa using hk) (fun i hi hik => by have := h (i + 1) (by simp; omega) (by omega); simpa using this) (fun hh => by have := hs (by simp; omega); simpa using this)]
theorem nlen_at {l : List UInt8} {k : Nat} (h1 : 1 ≤ k) (hk : k ≤ l.length) (hL : Asc.isLetter (l[0]'(by omega)).toNat = true) (h : ∀ i (h : i < l.length), 1 ≤ i → i < k → Asc.isWord (l[i]).toNat = true) (hs : ∀ h : k < l.length, Asc.isWord (l[k]).toNat = false) : nlen l = if 32 < k then 0 else k := by
 cases l with
 | nil => simp at hk; omega
 | cons c t =>
  obtain ⟨m, rfl⟩ : ∃ m, k = m + 1 := ⟨k - 1, by omega⟩
  have := tw_len (t := t) (k := m) (by simpa using hk) (fun i hi him => by have := h (i + 1) (by simp; omega) (by omega) (by omega); simpa using this) (fun hh => by have := hs (by simp; omega); simpa using this)
  simp only [List.getElem_cons_zero] at hL
  rw [nlen, if_pos hL, this, Nat.add_comm 1 m]
theorem nlen_no {l : List UInt8} (h : 0 < l.length) (hL : Asc.isLetter (l[0]).toNat = false) : nlen l = 0 := by
 cases l with
 | nil => simp at h
 | cons c t =>
  simp only [List.getElem_cons_zero] at hL
  rw [nlen, if_neg (by rw [hL]; decide)]
def NmOk (l : List UInt8) : Prop := 0 < l.length ∧ l.length ≤ 32 ∧ (∀ h : 0 < l.length, Asc.isLetter (l[0]).toNat = true) ∧ ∀ i (h : i < l.length), Asc.isWord (l[i]).toNat = true
noncomputable def nmB (l : List UInt8) : Bool := @decide (NmOk l) (Classical.propDecidable _)
theorem nmB_yes {l : List UInt8} (h : NmOk l) : nmB l = true := by unfold nmB; exact @decide_eq_true _ (Classical.propDecidable _) h
theorem nmB_no {l : List UInt8} (h : ¬ NmOk l) : nmB l = false := by unfold nmB; exact @decide_eq_false _ (Classical.propDecidable _) h
theorem nlen_le (l : List UInt8) : nlen l ≤ l.length := by
 cases l with
 | nil => exact Nat.le_refl _
 | cons c t =>
  rw [nlen]
  have := (List.takeWhile_prefix (p := fun x : UInt8 => Asc.isWord x.toNat) (l := t)).length_le
  split
  ·split
   ·simp
   ·simp only [List.length_cons]; omega
  ·simp
theorem nm_iff {l : List UInt8} (h : 0 < l.length) : NmOk l ↔ nlen l = l.length := by
 cases l with
 | nil => simp at h
 | cons c t =>
  have hp := (List.takeWhile_prefix (p := fun x : UInt8 => Asc.isWord x.toNat) (l := t))
  constructor
  ·rintro ⟨_, h2, h3, h4⟩
   have := nlen_at (l := c :: t) (k := (c :: t).length) (by simp) (Nat.le_refl _) (h3 h) (fun i hi _ _ => h4 i hi) (fun hh => by omega)
   rw [this, if_neg (by omega)]
  ·intro e
   rw [nlen] at e
   have hlen := hp.length_le
   by_cases hL : Asc.isLetter c.toNat = true
   ·rw [if_pos hL] at e
    by_cases h32 : 32 < 1 + (t.takeWhile fun x => Asc.isWord x.toNat).length
    ·rw [if_pos h32] at e; simp at e
    ·rw [if_neg h32] at e
     simp only [List.length_cons] at e
     have ht : t.takeWhile (fun x => Asc.isWord x.toNat) = t := hp.eq_of_length (by omega)
     refine ⟨h, by simp; omega, fun _ => hL, fun i hi => ?_⟩
     cases i with
     | zero => simp only [List.getElem_cons_zero]; unfold Asc.isWord; simp [hL]
     | succ i =>
      simp only [List.getElem_cons_succ]
      have hm : t[i]'(by simpa using hi) ∈ t.takeWhile (fun x => Asc.isWord x.toNat) := by rw [ht]; exact List.getElem_mem _
      exact List.all_eq_true.1 (List.all_takeWhile (l := t) (p := fun x : UInt8 => Asc.isWord x.toNat)) _ hm
   ·rw [if_neg hL] at e; simp at e
set_option maxRecDepth 100000 in
set_option maxHeartbeats 2000000 in
theorem nlen_any (l : List UInt8) (w : World) (hk : Kinds w) (hml : l.length ≤ 9223372036854775807) :
  Calls Tryz.prog 132 #[.string ⟨l.toArray⟩] w fun e w' => e = .returned (.int .i64 (nlen l)) ∧ w = w' := by
 rcases Nat.eq_zero_or_pos l.length with h0 | hpos
 ·obtain rfl := List.length_eq_zero_iff.1 h0
  clear h0 hml
  go_enter Tryz.func132, Tryz.ntmps132
  go_wp2_with fail
  go_ret
  exact ⟨rfl, rfl⟩
 ·have e2 : (l.isEmpty) = false := by cases l with | nil => simp at hpos | cons a b => rfl
  obtain ⟨c0, ⟨_, hx0⟩, hc0, hb0⟩ := byte_at l 0 hpos
  have HL := Lib.hid (letter_any c0 w hb0 hk)
  have HKW := Lib.hid hk
  obtain ⟨R, hR⟩ : ∃ R, nlen l = R := ⟨_, rfl⟩
  have HR := Lib.hid hR
  rw [hR]
  have HC0 := Lib.hid hc0
  clear hk hR hc0
  cases hl : Asc.isLetter c0
  ·have HZ : Hid ((0 : Nat) = R) := Lib.hid (by rw [← HR.out, nlen_no hpos (by rw [HC0.out]; exact hl)])
   rw [hl] at HL
   clear hl
   go_enter Tryz.func132, Tryz.ntmps132
   go_wp2_with (go_at_call 157; refine HL.out.mono ?_; rintro e w' ⟨rfl, rfl⟩)
   go_ret
   exact ⟨ret_int (by rw [← HZ.out]; rfl), rfl⟩
  ·have HA : Hid (∀ k, 1 ≤ k → k ≤ l.length → (∀ i (h : i < l.length), 1 ≤ i → i < k → Asc.isWord (l[i]).toNat = true) → (∀ h : k < l.length, Asc.isWord (l[k]).toNat = false) → (if 32 < k then 0 else k) = R) :=
    Lib.hid (fun k h1 h2 h3 h4 => by rw [← HR.out, nlen_at h1 h2 (by rw [HC0.out]; exact hl) h3 h4])
   rw [hl] at HL
   clear hl hx0
   obtain ⟨c0', ⟨_, hx0⟩, hc0', _⟩ := byte_at l 0 hpos
   have ec : c0' = c0 := hc0'.symm.trans HC0.out
   rw [ec] at hx0
   clear hc0' ec
   go_enter Tryz.func132, Tryz.ntmps132
   go_wp2_with (go_at_call 157; refine HL.out.mono ?_; rintro e w' ⟨rfl, rfl⟩)
   go_loop [3] (fun i => ∃ k : Nat, 1 ≤ k ∧ k ≤ l.length ∧ i = .int .i64 k ∧ Hid (∀ i (h : i < l.length), 1 ≤ i → i < k → Asc.isWord (l[i]).toNat = true)) (fun i => l.length - (intOf i).toNat)
   case atStart => exact ⟨1, by omega, by omega, rfl, Lib.hid (fun _ _ _ _ => by omega)⟩
   case round =>
    obtain ⟨k, hk1, hkl, rfl, HALL⟩ := hrel
    by_cases hlt : k < l.length
    ·obtain ⟨c, ⟨_, hx⟩, hc, hb⟩ := byte_at l k hlt
     have HC := Lib.hid hc
     have HW := Lib.hid (word_any c w hb HKW.out)
     clear hc hx0
     cases hw : Asc.isWord c
     ·have HZ : Hid ((if 32 < k then 0 else k) = R) := Lib.hid (HA.out k hk1 hkl HALL.out (fun _ => by rw [HC.out]; exact hw))
      rw [hw] at HW
      clear hw
      by_cases h32 : 32 < k
      ·have z1 : decide ((32 : Int) < (k : Int)) = true := decide_eq_true (by omega)
       have HZ2 : Hid ((0 : Nat) = R) := Lib.hid (by rw [← HZ.out, if_pos h32])
       go_wp2_with (go_at_call 158; refine HW.out.mono ?_; rintro e w' ⟨rfl, rfl⟩)
       go_ret
       exact ⟨ret_int (by rw [← HZ2.out]; rfl), rfl⟩
      ·have z1 : decide ((32 : Int) < (k : Int)) = false := decide_eq_false (by omega)
       have HZ2 : Hid (k = R) := Lib.hid (by rw [← HZ.out, if_neg h32])
       go_wp2_with (go_at_call 158; refine HW.out.mono ?_; rintro e w' ⟨rfl, rfl⟩)
       go_ret
       exact ⟨ret_int (by rw [← HZ2.out]), rfl⟩
     ·have HN : Hid (∀ i (h : i < l.length), 1 ≤ i → i < k + 1 → Asc.isWord (l[i]).toNat = true) := Lib.hid (fun i h h1 h2 => by
       by_cases e : i = k
       ·subst e; rw [HC.out]; exact hw
       ·exact HALL.out i h h1 (by omega))
      rw [hw] at HW
      clear hw
      go_wp2_with (go_at_call 158; refine HW.out.mono ?_; rintro e w' ⟨rfl, rfl⟩)
      go_round
      case rel => exact ⟨k + 1, by omega, by omega, by go_num, HN⟩
      case measure => simp [intOf]; omega
    ·obtain rfl : k = l.length := by omega
     have HZ : Hid ((if 32 < l.length then 0 else l.length) = R) := Lib.hid (HA.out _ hk1 hkl HALL.out (fun hh => by omega))
     by_cases h32 : 32 < l.length
     ·have z1 : decide ((32 : Int) < (l.length : Int)) = true := decide_eq_true (by omega)
      have HZ2 : Hid ((0 : Nat) = R) := Lib.hid (by rw [← HZ.out, if_pos h32])
      go_wp2_with fail
      go_ret
      exact ⟨ret_int (by rw [← HZ2.out]; rfl), rfl⟩
     ·have z1 : decide ((32 : Int) < (l.length : Int)) = false := decide_eq_false (by omega)
      have HZ2 : Hid (l.length = R) := Lib.hid (by rw [← HZ.out, if_neg h32])
      go_wp2_with fail
      go_ret
      exact ⟨ret_int (by rw [← HZ2.out]), rfl⟩
set_option maxRecDepth 100000 in
theorem isname_any (l : List UInt8) (w : World) (hk : Kinds w) (hml : l.length ≤ 9223372036854775807) :
  Calls Tryz.prog 105 #[.string ⟨l.toArray⟩] w fun e w' => e = .returned (.bool (nmB l)) ∧ w = w' := by
 rcases Nat.eq_zero_or_pos l.length with h0 | hpos
 ·obtain rfl := List.length_eq_zero_iff.1 h0
  rw [nmB_no (fun h => by have := h.1; simp at this)]
  clear h0 hml
  go_enter Tryz.func105, Tryz.ntmps105
  go_wp2_with fail
  go_ret
  exact ⟨rfl, rfl⟩
 ·have e2 : (l.isEmpty) = false := by cases l with | nil => simp at hpos | cons a b => rfl
  have HN := Lib.hid (nlen_any l w hk hml)
  have hle := nlen_le l
  have HI := Lib.hid (nm_iff hpos)
  obtain ⟨n, hn⟩ : ∃ n, nlen l = n := ⟨_, rfl⟩
  rw [hn] at HN hle HI
  clear hn hk
  by_cases e : n = l.length
  ·rw [nmB_yes (HI.out.2 e)]
   subst e
   clear hle
   go_enter Tryz.func105, Tryz.ntmps105
   go_wp2_with (go_at_call 132; refine HN.out.mono ?_; rintro e w' ⟨rfl, rfl⟩)
   go_ret
   exact ⟨rfl, rfl⟩
  ·rw [nmB_no (fun h => e (HI.out.1 h))]
   have z1 : ((n : Int) == (l.length : Int)) = false := by rw [beq_eq_false_iff_ne]; omega
   clear HI
   go_enter Tryz.func105, Tryz.ntmps105
   go_wp2_with (go_at_call 132; refine HN.out.mono ?_; rintro e w' ⟨rfl, rfl⟩)
   go_ret
   exact ⟨ret_bool (by first | rfl | simpa using e), rfl⟩
end Go.Proofs.YtmpbjaodgajnfaaGreatDoor

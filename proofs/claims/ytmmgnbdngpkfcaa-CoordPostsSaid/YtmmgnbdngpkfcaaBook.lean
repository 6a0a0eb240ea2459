
/-
  Histories in bits, in plain Lean: what an event's bits are, and that they tell it.
-/
import Derived.Test.YtmmgnbdngpkfcaaBtsLaws
namespace Go.Proofs.Ytmmgnbdngpkfcaa
set_option linter.unusedVariables false

namespace Bts
theorem lead_num (z : Nat) (t : Bits) : lead (zeros z ++ true :: t) = z := by
  refine lead_at (fun i hi => ?_) ?_
  · rw [List.getElem?_append_left (by rw [zeros_len]; exact hi)]
    simp [zeros, hi]
  · rw [List.getElem?_append_right (by rw [zeros_len]; exact Nat.le_refl _), zeros_len, Nat.sub_self]
    simp
/-- a number's bits tell it, and where they end -/
theorem num_inj {x y : BitVec 64} {r s : Bits} (h : num x ++ r = num y ++ s) : x = y ∧ r = s := by
  obtain ⟨z, d, h1, h2, h3, h4⟩ := num_shape x
  obtain ⟨z', d', g1, g2, g3, g4⟩ := num_shape y
  rw [h1, g1] at h
  simp only [List.append_assoc, List.cons_append] at h
  have hz : z = z' := by
    have e1 := lead_num z (d ++ r)
    have e2 := lead_num z' (d' ++ s)
    rw [h] at e1
    omega
  subst hz
  have h' := List.append_cancel_left h
  injection h' with _ h'
  obtain ⟨hd, hr⟩ := List.append_inj h' (by omega)
  subst hd
  refine ⟨?_, hr⟩
  rcases h4 with ⟨a1, a2, a3⟩ | ⟨a1, a2, a3, a4⟩
  · rcases g4 with ⟨b1, b2, b3⟩ | ⟨b1, b2, b3, b4⟩
    · rw [a3, b3]
    · omega
  · rcases g4 with ⟨b1, b2, b3⟩ | ⟨b1, b2, b3, b4⟩
    · omega
    · rw [← a2, ← b2]
/-- some bits of two numbers -/
theorem put_inj {x y : BitVec 64} {n : Int} {r s : Bits} (h : put x n ++ r = put y n ++ s) : x.toNat % 2 ^ clamp n = y.toNat % 2 ^ clamp n ∧ r = s := by
  obtain ⟨h1, h2⟩ := List.append_inj h (by unfold put; rw [low_len, low_len])
  refine ⟨?_, h2⟩
  have := congrArg (fun l => (val l).toNat) h1
  simp only [put] at this
  rwa [val_low _ _ (clamp_le n), val_low _ _ (clamp_le n)] at this
/-- one behind the other, if each tells where it ends -/
theorem flat_inj {α : Type} (f : α → Bits) (ok : α → Prop) (hf : ∀ x y r s, ok x → ok y → f x ++ r = f y ++ s → x = y ∧ r = s) : ∀ (l m : List α) (r s : Bits), l.length = m.length → (∀ x ∈ l, ok x) → (∀ x ∈ m, ok x) →
    (l.map f).flatten ++ r = (m.map f).flatten ++ s → l = m ∧ r = s
  | [], [], r, s, _, _, _, h => ⟨rfl, h⟩
  | x :: l, y :: m, r, s, hl, h1, h2, h => by
    simp only [List.map_cons, List.flatten_cons, List.append_assoc] at h
    obtain ⟨rfl, h'⟩ := hf x y _ _ (h1 x (by simp)) (h2 y (by simp)) h
    obtain ⟨rfl, h''⟩ := flat_inj f ok hf l m r s (by simpa using hl) (fun z hz => h1 z (by simp [hz])) (fun z hz => h2 z (by simp [hz])) h'
    exact ⟨rfl, h''⟩
  | [], _ :: _, _, _, hl, _, _, _ => by simp at hl
  | _ :: _, [], _, _, hl, _, _, _ => by simp at hl
end Bts

namespace Bk
/-- an operation: what, which key, which value -/
abbrev Op : Type := Int × Int × Int
/-- an event: what, whose, its operations -/
abbrev Ev : Type := Int × Int × List Op
def opOk (o : Op) : Prop := (o.1 = 1 ∨ o.1 = 2) ∧ 0 ≤ o.2.1 ∧ o.2.1 < 16 ∧ 0 ≤ o.2.2 ∧ o.2.2 < 1099511627776
instance (o : Op) : Decidable (opOk o) := inferInstanceAs (Decidable (_ ∧ _))
def evOk (e : Ev) : Prop := (1 ≤ e.1 ∧ e.1 ≤ 4 ∧ 1 ≤ e.2.1 ∧ e.2.1 ≤ 16 ∧ e.2.2.length ≤ 12) ∧ ∀ o ∈ e.2.2, opOk o
instance (e : Ev) : Decidable (evOk e) := inferInstanceAs (Decidable (_ ∧ _))
/-- the numbers that the code makes of the parts -/
def opNum (o : Op) : BitVec 64 := BitVec.ofInt 64 (o.1 - 1) <<< 4 ||| BitVec.ofInt 64 o.2.1
def evNum (e : Ev) : BitVec 64 := BitVec.ofInt 64 (e.1 - 1) <<< 8 ||| BitVec.ofInt 64 (e.2.1 - 1) <<< 4 ||| BitVec.ofInt 64 e.2.2.length
def opBits (o : Op) : Bts.Bits := Bts.put (opNum o) 5 ++ Bts.num (BitVec.ofInt 64 o.2.2)
def opsBits (l : List Op) : Bts.Bits := (l.map opBits).flatten
def evBits (e : Ev) : Bts.Bits := Bts.put (evNum e) 10 ++ opsBits e.2.2
def evsBits (l : List Ev) : Bts.Bits := (l.map evBits).flatten
def esBits (l : List Ev) : Bts.Bits := Bts.num (BitVec.ofInt 64 l.length) ++ evsBits l

/-- parts of a number that lie beside each other -/
theorem or_nat (a b k : Nat) (hb : b < 2 ^ k) (ha : a < 2 ^ (64 - k)) (hk : k ≤ 64) : (BitVec.ofNat 64 a <<< k ||| BitVec.ofNat 64 b) = BitVec.ofNat 64 (a * 2 ^ k + b) := by
  apply BitVec.eq_of_toNat_eq
  have h64 : 2 ^ (64 - k) * 2 ^ k = 2 ^ 64 := by rw [← Nat.pow_add]; congr 1; omega
  have hlt : a * 2 ^ k + b < 2 ^ 64 := by
    have : (a + 1) * 2 ^ k ≤ 2 ^ (64 - k) * 2 ^ k := Nat.mul_le_mul_right _ ha
    rw [Nat.add_mul] at this
    omega
  have h2 : a * 2 ^ k < 2 ^ 64 := by omega
  have hap : a ≤ a * 2 ^ k := Nat.le_mul_of_pos_right _ (Nat.two_pow_pos k)
  rw [BitVec.toNat_or, BitVec.toNat_shiftLeft, BitVec.toNat_ofNat, BitVec.toNat_ofNat, BitVec.toNat_ofNat, Nat.mod_eq_of_lt hlt, Nat.mod_eq_of_lt (show a < 2 ^ 64 by omega), Nat.mod_eq_of_lt (show b < 2 ^ 64 by omega), Nat.shiftLeft_eq, Nat.mod_eq_of_lt h2,
    Nat.mul_comm a, ← Nat.two_pow_add_eq_or_of_lt hb]
theorem opNum_eq {o : Op} (h : opOk o) : opNum o = BitVec.ofNat 64 ((o.1 - 1).toNat * 16 + o.2.1.toNat) := by
  obtain ⟨h1, h2, h3, _⟩ := h
  obtain ⟨a, ha⟩ : ∃ a : Nat, o.1 - 1 = a := ⟨(o.1 - 1).toNat, by omega⟩
  obtain ⟨b, hb⟩ : ∃ b : Nat, o.2.1 = b := ⟨o.2.1.toNat, by omega⟩
  unfold opNum
  rw [ha, hb, Int.toNat_natCast, Int.toNat_natCast]
  exact or_nat a b 4 (by omega) (by omega) (by decide)
theorem evNum_eq {e : Ev} (h : evOk e) : evNum e = BitVec.ofNat 64 (((e.1 - 1).toNat * 16 + (e.2.1 - 1).toNat) * 16 + e.2.2.length) := by
  obtain ⟨⟨h1, h2, h3, h4, h5⟩, _⟩ := h
  obtain ⟨a, ha⟩ : ∃ a : Nat, e.1 - 1 = a := ⟨(e.1 - 1).toNat, by omega⟩
  obtain ⟨b, hb⟩ : ∃ b : Nat, e.2.1 - 1 = b := ⟨(e.2.1 - 1).toNat, by omega⟩
  unfold evNum
  rw [ha, hb, Int.toNat_natCast, Int.toNat_natCast]
  have e1 : BitVec.ofInt 64 (a : Int) <<< 8 ||| BitVec.ofInt 64 (b : Int) <<< 4 = BitVec.ofNat 64 (a * 16 + b) <<< 4 := by
    have := or_nat a b 4 (by omega) (by omega) (by decide)
    rw [show (16 : Nat) = 2 ^ 4 from rfl, ← this, BitVec.shiftLeft_or_distrib, ← BitVec.shiftLeft_add]
    rfl
  rw [e1]
  exact or_nat (a * 16 + b) e.2.2.length 4 (by omega) (by omega) (by decide)
theorem opBits_inj (o p : Op) (r s : Bts.Bits) (ho : opOk o) (hp : opOk p) (h : opBits o ++ r = opBits p ++ s) : o = p ∧ r = s := by
  unfold opBits at h
  rw [List.append_assoc, List.append_assoc] at h
  obtain ⟨h1, h2⟩ := Bts.put_inj h
  obtain ⟨h3, h4⟩ := Bts.num_inj h2
  refine ⟨?_, h4⟩
  rw [opNum_eq ho, opNum_eq hp, show Bts.clamp 5 = 5 by decide, BitVec.toNat_ofNat, BitVec.toNat_ofNat] at h1
  have h5 := congrArg BitVec.toNat h3
  rw [BitVec.toNat_ofInt, BitVec.toNat_ofInt] at h5
  obtain ⟨a1, a2, a3, a4, a5⟩ := ho
  obtain ⟨b1, b2, b3, b4, b5⟩ := hp
  obtain ⟨o1, o2, o3⟩ := o
  obtain ⟨p1, p2, p3⟩ := p
  simp only at *
  have c1 : o1 = p1 := by omega
  have c2 : o2 = p2 := by omega
  have c3 : o3 = p3 := by omega
  rw [c1, c2, c3]
theorem evBits_inj (e f : Ev) (r s : Bts.Bits) (he : evOk e) (hf : evOk f) (h : evBits e ++ r = evBits f ++ s) : e = f ∧ r = s := by
  unfold evBits at h
  rw [List.append_assoc, List.append_assoc] at h
  obtain ⟨h1, h2⟩ := Bts.put_inj h
  rw [evNum_eq he, evNum_eq hf, show Bts.clamp 10 = 10 by decide, BitVec.toNat_ofNat, BitVec.toNat_ofNat] at h1
  obtain ⟨⟨a1, a2, a3, a4, a5⟩, a6⟩ := he
  obtain ⟨⟨b1, b2, b3, b4, b5⟩, b6⟩ := hf
  obtain ⟨e1, e2, e3⟩ := e
  obtain ⟨f1, f2, f3⟩ := f
  simp only at *
  have c1 : e1 = f1 := by omega
  have c2 : e2 = f2 := by omega
  have c3 : e3.length = f3.length := by omega
  obtain ⟨h3, h4⟩ := Bts.flat_inj opBits opOk opBits_inj e3 f3 r s c3 a6 b6 h2
  rw [c1, c2, h3]
  exact ⟨rfl, h4⟩
/-- a history's bytes tell it -/
theorem esBits_inj (l m : List Ev) (r s : Bts.Bits) (hl : l.length ≤ 400) (hm : m.length ≤ 400) (h1 : ∀ e ∈ l, evOk e) (h2 : ∀ e ∈ m, evOk e) (h : esBits l ++ r = esBits m ++ s) : l = m ∧ r = s := by
  unfold esBits at h
  rw [List.append_assoc, List.append_assoc] at h
  obtain ⟨h3, h4⟩ := Bts.num_inj h
  have h5 := congrArg BitVec.toNat h3
  rw [BitVec.toNat_ofInt, BitVec.toNat_ofInt] at h5
  exact Bts.flat_inj evBits evOk evBits_inj l m r s (by omega) h1 h2 h4
theorem pack_inj (l m : List Ev) (hl : l.length ≤ 400) (hm : m.length ≤ 400) (h1 : ∀ e ∈ l, evOk e) (h2 : ∀ e ∈ m, evOk e) (h : Bts.pack (esBits l) = Bts.pack (esBits m)) : l = m := by
  have := congrArg Bts.bitsOf h
  rw [Bts.bitsOf_pack, Bts.bitsOf_pack] at this
  exact (esBits_inj l m _ _ hl hm h1 h2 this).1
theorem pack_mono {l m : Bts.Bits} (h : l.length ≤ m.length) : (Bts.pack l).length ≤ (Bts.pack m).length := by
  rw [Bts.pack_len, Bts.pack_len]; omega
theorem esBits_app (l m : List Ev) (h : l.length + m.length ≤ 400) : (esBits l).length ≤ (esBits (l ++ m)).length ∧ (esBits m).length ≤ (esBits (l ++ m)).length := by
  have n1 : (Bts.num (BitVec.ofInt 64 l.length)).length ≤ (Bts.num (BitVec.ofInt 64 (l ++ m).length)).length := Bts.num_len_mono (by rw [BitVec.toNat_ofInt, BitVec.toNat_ofInt, List.length_append]; omega)
  have n2 : (Bts.num (BitVec.ofInt 64 m.length)).length ≤ (Bts.num (BitVec.ofInt 64 (l ++ m).length)).length := Bts.num_len_mono (by rw [BitVec.toNat_ofInt, BitVec.toNat_ofInt, List.length_append]; omega)
  have e1 : (evsBits (l ++ m)).length = (evsBits l).length + (evsBits m).length := by unfold evsBits; rw [List.map_append, List.flatten_append, List.length_append]
  have e2 : ∀ x : List Ev, (esBits x).length = (Bts.num (BitVec.ofInt 64 x.length)).length + (evsBits x).length := fun x => by unfold esBits; rw [List.length_append]
  rw [e2, e2, e2, e1]
  omega
theorem opsBits_snoc (l : List Op) (k : Nat) (h : k < l.length) : opsBits (l.take (k + 1)) = opsBits (l.take k) ++ opBits l[k] := by
  unfold opsBits
  rw [← List.take_append_getElem h, List.map_append, List.flatten_append]
  simp
theorem evsBits_snoc (l : List Ev) (k : Nat) (h : k < l.length) : evsBits (l.take (k + 1)) = evsBits (l.take k) ++ evBits l[k] := by
  unfold evsBits
  rw [← List.take_append_getElem h, List.map_append, List.flatten_append]
  simp
theorem opBits_len (o : Op) : (opBits o).length ≤ 134 := by
  obtain ⟨z, h, hz⟩ := Bts.num_len (BitVec.ofInt 64 o.2.2)
  have h5 : (Bts.put (opNum o) 5).length = 5 := by unfold Bts.put; rw [Bts.low_len]; decide
  unfold opBits
  rw [List.length_append]
  omega
theorem opsBits_len (l : List Op) : (opsBits l).length ≤ l.length * 134 := by
  induction l with
  | nil => simp [opsBits]
  | cons t l ih =>
    have := opBits_len t
    simp only [opsBits, List.map_cons, List.flatten_cons, List.length_append, List.length_cons] at ih ⊢
    rw [Nat.add_mul]; omega
theorem evBits_len (e : Ev) (h : e.2.2.length ≤ 12) : (evBits e).length ≤ 1618 := by
  have h1 := opsBits_len e.2.2
  have h5 : (Bts.put (evNum e) 10).length = 10 := by unfold Bts.put; rw [Bts.low_len]; decide
  unfold evBits
  rw [List.length_append]
  omega
theorem evsBits_len (l : List Ev) (h : ∀ e ∈ l, e.2.2.length ≤ 12) : (evsBits l).length ≤ l.length * 1618 := by
  induction l with
  | nil => simp [evsBits]
  | cons t l ih =>
    have := evBits_len t (h t (by simp))
    have := ih fun e he => h e (by simp [he])
    simp only [evsBits, List.map_cons, List.flatten_cons, List.length_append, List.length_cons] at this ⊢
    rw [Nat.add_mul]; omega
end Bk
end Go.Proofs.Ytmmgnbdngpkfcaa

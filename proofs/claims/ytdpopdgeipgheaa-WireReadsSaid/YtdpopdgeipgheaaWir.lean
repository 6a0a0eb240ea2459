
/-
  Messages in bits, in plain Lean: what stands in a frame, that it is read as it was written.
-/
import Derived.Test.YtdpopdgeipgheaaPars2
namespace Go.Proofs.Ytdpopdgeipgheaa.Wi
open Go.Proofs.Ytdpopdgeipgheaa.Bts
set_option linter.unusedVariables false

/-- what stands inside: the numbers, the list, the data -/
abbrev Ins := List Int × List Bytes × Bytes
def zeroI : Ins := ([0, 0, 0, 0, 0, 0, 0, 0, 0], [], [])
def numsBits (l : List Int) : Bits := (l.map fun x => num (BitVec.ofInt 64 x)).flatten
def textBits (b : Bytes) : Bits := num (BitVec.ofInt 64 b.length) ++ bitsOf b
def textsBits (l : List Bytes) : Bits := (l.map textBits).flatten
def inBits (x : Ins) : Bits := numsBits x.1 ++ (num (BitVec.ofInt 64 x.2.1.length) ++ textsBits (x.2.1 ++ [x.2.2]))
def numOk (x : Int) : Prop := 0 ≤ x ∧ x ≤ 1099511627776
instance (x : Int) : Decidable (numOk x) := by unfold numOk; infer_instance
def textOk (b : Bytes) : Prop := b.length ≤ 4000
instance (b : Bytes) : Decidable (textOk b) := by unfold textOk; infer_instance
def insOk (x : Ins) : Prop := x.1.length = 9 ∧ (∀ v ∈ x.1, numOk v) ∧ x.2.1.length ≤ 2000 ∧ ∀ b ∈ x.2.1 ++ [x.2.2], textOk b

def byteP : Pr (BitVec 8) := mapP (fun v : BitVec 64 => v.setWidth 8) (getP 8)
def textP : Pr Bytes := mapP (fun x : BitVec 64 × Bytes => x.2) (bindP (filtP (fun n => decide (n.toNat ≤ 4000)) 3 numP) (fun n => manyP byteP n.toNat))
def fieldP : Pr Int := mapP (fun v : BitVec 64 => (v.toNat : Int)) (filtP (fun v => decide (v.toNat ≤ 1099511627776)) 1 numP)
def insP : Pr Ins := mapP (fun x : List Int × BitVec 64 × List Bytes × Bytes => (x.1, x.2.2.1, x.2.2.2))
  (bindP (manyP fieldP 9) (fun _ => bindP (filtP (fun n => decide (n.toNat ≤ 2000)) 4 numP) (fun n => bindP (manyP textP n.toNat) (fun _ => textP))))
def read (l : Bits) : Ins × Int := match allP insP l with
  | .inl x => (x, 0)
  | .inr e => (zeroI, e)

theorem good_byte : Coded (fun c : BitVec 8 => low (c.setWidth 64) 8) byteP (fun _ => True) := by
  refine (good_get 8 (by decide)).map (fun v : BitVec 64 => v.setWidth 8) (fun c => c.setWidth 64) (fun c : BitVec 8 => low (c.setWidth 64) 8) (fun _ => True) (fun y _ => by dsimp only) (fun c _ => ?_) (fun x hx => ?_)
  · have := c.isLt
    refine ⟨by rw [BitVec.toNat_setWidth]; omega, ?_⟩
    apply BitVec.eq_of_toNat_eq
    rw [BitVec.toNat_setWidth, BitVec.toNat_setWidth]; omega
  · refine ⟨trivial, ?_⟩
    have : x.toNat < 2 ^ 8 := hx
    have := x.isLt
    apply BitVec.eq_of_toNat_eq
    rw [BitVec.toNat_setWidth, BitVec.toNat_setWidth]; omega
theorem good_text : Coded textBits textP textOk := by
  have h := (good_num.filt (fun n => decide (n.toNat ≤ 4000)) 3 (by decide)).bind (fun n _ => good_byte.many n.toNat)
  refine h.map _ (fun b => (BitVec.ofInt 64 b.length, b)) textBits textOk (fun y _ => rfl) (fun b hb => ?_) (fun x hx => ?_)
  · have hb' : b.length ≤ 4000 := hb
    have e := ofInt_nat64 (b.length : Int) (by omega) (by omega)
    exact ⟨⟨⟨trivial, by simp only [decide_eq_true_eq]; omega⟩, by simp only; omega, fun _ _ => trivial⟩, rfl⟩
  · obtain ⟨n, b⟩ := x
    obtain ⟨⟨_, h1⟩, h2, _⟩ := hx
    simp only [decide_eq_true_eq] at h1 h2
    refine ⟨by show b.length ≤ 4000; omega, ?_⟩
    simp only [Prod.mk.injEq, and_true]
    apply BitVec.eq_of_toNat_eq
    rw [h2, BitVec.toNat_ofInt]
    omega
theorem good_field : Coded (fun x : Int => num (BitVec.ofInt 64 x)) fieldP numOk := by
  refine (good_num.filt (fun v => decide (v.toNat ≤ 1099511627776)) 1 (by decide)).map _ (fun x => BitVec.ofInt 64 x) _ _ (fun y _ => rfl) (fun x hx => ?_) (fun v hv => ?_)
  · obtain ⟨h0, h1⟩ := hx
    have e := ofInt_nat64 x h0 (by omega)
    exact ⟨⟨trivial, by simp only [decide_eq_true_eq]; omega⟩, e⟩
  · have h1 : v.toNat ≤ 1099511627776 := by simpa using hv.2
    refine ⟨⟨by omega, by omega⟩, ?_⟩
    rw [BitVec.ofInt_natCast]; exact BitVec.ofNat_toNat 64 v
theorem good_ins : Coded inBits insP insOk := by
  have h := (good_field.many 9).bind (fun _ _ => (good_num.filt (fun n => decide (n.toNat ≤ 2000)) 4 (by decide)).bind (fun n _ => (good_text.many n.toNat).bind (fun _ _ => good_text)))
  refine h.map _ (fun x => (x.1, BitVec.ofInt 64 x.2.1.length, x.2.1, x.2.2)) inBits insOk (fun y _ => ?_) (fun x hx => ?_) (fun x hx => ?_)
  · simp only [inBits, numsBits, textsBits, List.map_append, List.flatten_append, List.map_cons, List.map_nil, List.flatten_cons, List.flatten_nil, List.append_nil]
  · obtain ⟨h1, h2, h3, h4⟩ := hx
    have e := ofInt_nat64 (x.2.1.length : Int) (by omega) (by omega)
    exact ⟨⟨⟨h1, h2⟩, ⟨trivial, by simp only [decide_eq_true_eq]; omega⟩, ⟨by simp only; omega, fun b hb => h4 b (by simp [hb])⟩, h4 _ (by simp)⟩, rfl⟩
  · obtain ⟨ns, n, l, d⟩ := x
    obtain ⟨⟨h1, h2⟩, ⟨_, h3⟩, ⟨h4, h5⟩, h6⟩ := hx
    simp only [decide_eq_true_eq] at h1 h2 h3 h4 h5 h6
    refine ⟨⟨h1, h2, by simp only; omega, fun b hb => ?_⟩, ?_⟩
    · rcases List.mem_append.1 hb with hb | hb
      · exact h5 b hb
      · rw [List.mem_singleton.1 hb]; exact h6
    · simp only [Prod.mk.injEq, true_and, and_true]
      apply BitVec.eq_of_toNat_eq
      rw [h4, BitVec.toNat_ofInt]
      omega

/-- why it has no bits -/
def inErr (x : Ins) : Int := if ∀ v ∈ x.1, numOk v then (if 2000 < x.2.1.length then 4 else if ∀ b ∈ x.2.1 ++ [x.2.2], textOk b then 0 else 3) else 1
def inOut (x : Ins) : Bytes := if inErr x = 0 then pack (inBits x) else []
theorem inErr_ok {x : Ins} (h : inErr x = 0) (hl : x.1.length = 9) : insOk x := by
  unfold inErr at h
  split at h
  · rename_i h1
    split at h
    · cases h
    · split at h
      · rename_i h2 h3; exact ⟨hl, h1, by omega, h3⟩
      · cases h
  · cases h
theorem inErr_of {x : Ins} (h : insOk x) : inErr x = 0 ∧ inOut x = pack (inBits x) := by
  have e : inErr x = 0 := by
    unfold inErr
    rw [if_pos h.2.1, if_neg (by have := h.2.2.1; omega), if_pos h.2.2.2]
  exact ⟨e, by unfold inOut; rw [if_pos e]⟩
theorem inErr_some (x : Ins) : inErr x = 0 ∨ inErr x = 1 ∨ inErr x = 3 ∨ inErr x = 4 := by
  unfold inErr
  split
  · split
    · exact .inr (.inr (.inr rfl))
    · split
      · exact .inl rfl
      · exact .inr (.inr (.inl rfl))
  · exact .inr (.inl rfl)
theorem read_enc {x : Ins} (h : insOk x) : read (bitsOf (pack (inBits x))) = (x, 0) := by
  unfold read
  rw [allP_enc good_ins h]
theorem read_bad (l : Bits) : (read l).2 = 0 ∨ ((read l).1 = zeroI ∧ (read l).2 ≠ 0) := by
  unfold read
  cases h1 : allP insP l with
  | inl x => exact .inl rfl
  | inr e => exact .inr ⟨rfl, allP_err good_ins h1⟩
theorem read_ok {b : Bytes} (h : (read (bitsOf b)).2 = 0) : insOk (read (bitsOf b)).1 ∧ b = pack (inBits (read (bitsOf b)).1) := by
  unfold read at h ⊢
  cases h1 : allP insP (bitsOf b) with
  | inr e => rw [h1] at h; exact absurd h (allP_err good_ins h1)
  | inl x => exact allP_ok good_ins h1

theorem numsBits_snoc (l : List Int) (k : Nat) (h : k < l.length) : numsBits (l.take (k + 1)) = numsBits (l.take k) ++ num (BitVec.ofInt 64 l[k]) := by
  unfold numsBits
  rw [← List.take_append_getElem h, List.map_append, List.flatten_append]
  simp
theorem textsBits_snoc (l : List Bytes) (k : Nat) (h : k < l.length) : textsBits (l.take (k + 1)) = textsBits (l.take k) ++ textBits l[k] := by
  unfold textsBits
  rw [← List.take_append_getElem h, List.map_append, List.flatten_append]
  simp
theorem num_le (x : BitVec 64) : (num x).length ≤ 129 := by
  obtain ⟨z, h, hz⟩ := num_len x
  omega
theorem numsBits_len (l : List Int) : (numsBits l).length ≤ l.length * 129 := by
  induction l with
  | nil => simp [numsBits]
  | cons t l ih =>
    have := num_le (BitVec.ofInt 64 t)
    simp only [numsBits, List.map_cons, List.flatten_cons, List.length_append, List.length_cons] at ih ⊢
    rw [Nat.add_mul]; omega
theorem textBits_len (b : Bytes) : (textBits b).length ≤ 129 + 8 * b.length := by
  have := num_le (BitVec.ofInt 64 b.length)
  simp only [textBits, List.length_append, bitsOf_len]
  omega
theorem textsBits_len (l : List Bytes) (m : Nat) (h : ∀ b ∈ l, b.length ≤ m) : (textsBits l).length ≤ l.length * (129 + 8 * m) := by
  induction l with
  | nil => simp [textsBits]
  | cons t l ih =>
    have h1 := textBits_len t
    have h2 := h t (by simp)
    have h3 := ih fun e he => h e (by simp [he])
    simp only [textsBits, List.map_cons, List.flatten_cons, List.length_append, List.length_cons] at h3 ⊢
    rw [Nat.add_mul]; omega
theorem bitsOf_snoc (b : Bytes) (k : Nat) (h : k < b.length) : bitsOf (b.take (k + 1)) = bitsOf (b.take k) ++ low (b[k].setWidth 64) 8 := by
  rw [← List.take_append_getElem h, bitsOf_app, bitsOf_cons, bitsOf_nil, List.append_nil]

/-- a number of a message -/
def nth (l : List Int) (i : Nat) : Int := l.getD i 0
theorem nth_get (l : List Int) (i : Nat) (h : i < l.length) : nth l i = l[i] := by simp [nth, List.getD, h]
end Go.Proofs.Ytdpopdgeipgheaa.Wi

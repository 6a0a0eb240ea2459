
/-
  Readers of bits in plain Lean: what a reader that stops at its first fault tells, and codes that are read as they were written.
-/
import Derived.Test.YtmmgnbdngpkfcaaBook
namespace Go.Proofs.Ytmmgnbdngpkfcaa.Bts
set_option linter.unusedVariables false

/-- what is left, or why it stopped -/
abbrev St : Type := Sum Bits Int
/-- what reads something at the front of bits -/
abbrev Pr (α : Type) : Type := Bits → Sum (α × Bits) Int
def getP (n : Nat) : Pr (BitVec 64) := fun l => if l.length < n then .inr 10 else .inl (val (l.take n), l.drop n)
def numP : Pr (BitVec 64) := fun l =>
  if 65 ≤ lead l then .inr 11
  else if l.length < 2 * lead l + 1 then .inr 10
  else if lead l = 64 then (if val ((l.drop 65).take 64) = 0#64 then .inl (BitVec.allOnes 64, l.drop 129) else .inr 11)
  else .inl ((1#64 <<< lead l ||| val ((l.drop (lead l + 1)).take (lead l))) - 1#64, l.drop (2 * lead l + 1))
def mapP {α β : Type} (f : α → β) (p : Pr α) : Pr β := fun l => match p l with
  | .inl x => .inl (f x.1, x.2)
  | .inr e => .inr e
def filtP {α : Type} (c : α → Bool) (e : Int) (p : Pr α) : Pr α := fun l => match p l with
  | .inl x => if c x.1 = true then .inl x else .inr e
  | .inr e' => .inr e'
def bindP {α β : Type} (p : Pr α) (q : α → Pr β) : Pr (α × β) := fun l => match p l with
  | .inl x => (match q x.1 x.2 with
    | .inl y => .inl ((x.1, y.1), y.2)
    | .inr e => .inr e)
  | .inr e => .inr e
def manyP {α : Type} (p : Pr α) : Nat → Pr (List α)
  | 0 => fun l => .inl ([], l)
  | k + 1 => fun l => match manyP p k l with
    | .inl x => (match p x.2 with
      | .inl y => .inl (x.1 ++ [y.1], y.2)
      | .inr e => .inr e)
    | .inr e => .inr e
def intP : Pr Int := mapP unzig numP

theorem manyP_err {α : Type} {p : Pr α} {l : Bits} {e : Int} {k n : Nat} (h : manyP p k l = .inr e) (hk : k ≤ n) : manyP p n l = .inr e := by
  induction n with
  | zero => obtain rfl : k = 0 := by omega
            exact h
  | succ n ih =>
    by_cases hkn : k = n + 1
    · subst hkn; exact h
    · simp only [manyP, ih (by omega)]
theorem manyP_ok {α : Type} {p : Pr α} {l : Bits} {k : Nat} {xs : List α} {t : Bits} {x : α} {u : Bits} (h : manyP p k l = .inl (xs, t)) (h2 : p t = .inl (x, u)) : manyP p (k + 1) l = .inl (xs ++ [x], u) := by
  simp only [manyP, h, h2]
theorem manyP_bad {α : Type} {p : Pr α} {l : Bits} {k : Nat} {xs : List α} {t : Bits} {e : Int} (h : manyP p k l = .inl (xs, t)) (h2 : p t = .inr e) : manyP p (k + 1) l = .inr e := by
  simp only [manyP, h, h2]
theorem manyP_len {α : Type} {p : Pr α} : ∀ (k : Nat) {l : Bits} {xs : List α} {t : Bits}, manyP p k l = .inl (xs, t) → xs.length = k
  | 0, l, xs, t, h => by simp only [manyP, Sum.inl.injEq, Prod.mk.injEq] at h; rw [← h.1]; rfl
  | k + 1, l, xs, t, h => by
    simp only [manyP] at h
    cases h1 : manyP p k l with
    | inr e => rw [h1] at h; cases h
    | inl y =>
      obtain ⟨ys, u⟩ := y
      rw [h1] at h
      simp only at h
      cases h2 : p u with
      | inr e => rw [h2] at h; cases h
      | inl z =>
        rw [h2] at h
        simp only [Sum.inl.injEq, Prod.mk.injEq] at h
        rw [← h.1, List.length_append, manyP_len k h1]; rfl

/-- a code that is read as it was written: whole, and nothing else; cut off it is too short -/
structure Coded {α : Type} (enc : α → Bits) (p : Pr α) (ok : α → Prop) : Prop where
  full : ∀ x t, ok x → p (enc x ++ t) = .inl (x, t)
  sound : ∀ l x t, p l = .inl (x, t) → ok x ∧ l = enc x ++ t
  cut : ∀ x k, ok x → k < (enc x).length → p ((enc x).take k) = .inr 10
  err : ∀ l e, p l = .inr e → e ≠ 0

theorem Coded.bind {α β : Type} {ea : α → Bits} {p : Pr α} {oa : α → Prop} {eb : α → β → Bits} {q : α → Pr β} {ob : α → β → Prop} (h : Coded ea p oa) (h2 : ∀ x, oa x → Coded (eb x) (q x) (ob x)) :
    Coded (fun xy : α × β => ea xy.1 ++ eb xy.1 xy.2) (bindP p q) (fun xy => oa xy.1 ∧ ob xy.1 xy.2) where
  full := by
    rintro ⟨x, y⟩ t ⟨hx, hy⟩
    simp only [bindP, List.append_assoc, h.full x _ hx, (h2 x hx).full y t hy]
  sound := by
    rintro l ⟨x, y⟩ t hl
    simp only [bindP] at hl
    cases h1 : p l with
    | inr e => rw [h1] at hl; cases hl
    | inl z =>
      obtain ⟨x', u⟩ := z
      rw [h1] at hl
      simp only at hl
      cases h3 : q x' u with
      | inr e => rw [h3] at hl; cases hl
      | inl z =>
        obtain ⟨y', v⟩ := z
        rw [h3] at hl
        simp only [Sum.inl.injEq, Prod.mk.injEq] at hl
        obtain ⟨⟨rfl, rfl⟩, rfl⟩ := hl
        obtain ⟨a1, a2⟩ := h.sound _ _ _ h1
        obtain ⟨b1, b2⟩ := (h2 _ a1).sound _ _ _ h3
        exact ⟨⟨a1, b1⟩, by rw [a2, b2, List.append_assoc]⟩
  cut := by
    rintro ⟨x, y⟩ k ⟨hx, hy⟩ hk
    simp only at hx hy hk ⊢
    by_cases hkx : k < (ea x).length
    · rw [List.take_append_of_le_length (by omega)]
      simp only [bindP, h.cut x k hx hkx]
    · rw [List.length_append] at hk
      rw [List.take_append, List.take_of_length_le (by omega)]
      simp only [bindP, h.full x _ hx, (h2 x hx).cut y (k - (ea x).length) hy (by omega)]
  err := by
    intro l e hl
    simp only [bindP] at hl
    cases h1 : p l with
    | inr e' =>
      rw [h1] at hl
      simp only [Sum.inr.injEq] at hl
      subst hl
      exact h.err _ _ h1
    | inl z =>
      obtain ⟨x', u⟩ := z
      rw [h1] at hl
      simp only at hl
      cases h3 : q x' u with
      | inl e => rw [h3] at hl; cases hl
      | inr e' =>
        rw [h3] at hl
        simp only [Sum.inr.injEq] at hl
        subst hl
        exact (h2 _ (h.sound _ _ _ h1).1).err _ _ h3

theorem Coded.filt {α : Type} {ea : α → Bits} {p : Pr α} {oa : α → Prop} (h : Coded ea p oa) (c : α → Bool) (e : Int) (he : e ≠ 0) : Coded ea (filtP c e p) (fun x => oa x ∧ c x = true) where
  full := by
    rintro x t ⟨hx, hc⟩
    simp only [filtP, h.full x t hx, hc, if_true]
  sound := by
    rintro l x t hl
    simp only [filtP] at hl
    cases h1 : p l with
    | inr e => rw [h1] at hl; cases hl
    | inl z =>
      rw [h1] at hl
      simp only at hl
      split at hl
      · rename_i hc
        simp only [Sum.inl.injEq] at hl
        subst hl
        obtain ⟨a1, a2⟩ := h.sound _ _ _ h1
        exact ⟨⟨a1, hc⟩, a2⟩
      · cases hl
  cut := by
    rintro x k ⟨hx, hc⟩ hk
    simp only [filtP, h.cut x k hx hk]
  err := by
    intro l e' hl
    simp only [filtP] at hl
    cases h1 : p l with
    | inr e2 =>
      rw [h1] at hl
      simp only [Sum.inr.injEq] at hl
      subst hl
      exact h.err _ _ h1
    | inl z =>
      rw [h1] at hl
      simp only at hl
      split at hl
      · cases hl
      · simp only [Sum.inr.injEq] at hl
        subst hl
        exact he

theorem Coded.map {α β : Type} {ea : α → Bits} {p : Pr α} {oa : α → Prop} (h : Coded ea p oa) (f : α → β) (g : β → α) (eb : β → Bits) (ob : β → Prop) (he : ∀ y, ob y → eb y = ea (g y)) (hg : ∀ y, ob y → oa (g y) ∧ f (g y) = y) (hf : ∀ x, oa x → ob (f x) ∧ g (f x) = x) :
    Coded eb (mapP f p) ob where
  full := by
    intro y t hy
    obtain ⟨h1, h2⟩ := hg y hy
    simp only [mapP, he y hy, h.full _ t h1, h2]
  sound := by
    intro l y t hl
    simp only [mapP] at hl
    cases h1 : p l with
    | inr e => rw [h1] at hl; cases hl
    | inl z =>
      obtain ⟨x, u⟩ := z
      rw [h1] at hl
      simp only [Sum.inl.injEq, Prod.mk.injEq] at hl
      obtain ⟨rfl, rfl⟩ := hl
      obtain ⟨a1, a2⟩ := h.sound _ _ _ h1
      obtain ⟨b1, b2⟩ := hf x a1
      exact ⟨b1, by rw [a2, he _ b1, b2]⟩
  cut := by
    intro y k hy hk
    rw [he y hy] at hk ⊢
    simp only [mapP, h.cut _ k (hg y hy).1 hk]
  err := by
    intro l e hl
    simp only [mapP] at hl
    cases h1 : p l with
    | inl z => rw [h1] at hl; cases hl
    | inr e2 =>
      rw [h1] at hl
      simp only [Sum.inr.injEq] at hl
      subst hl
      exact h.err _ _ h1

theorem Coded.many {α : Type} {ea : α → Bits} {p : Pr α} {oa : α → Prop} (h : Coded ea p oa) : ∀ n, Coded (fun xs : List α => (xs.map ea).flatten) (manyP p n) (fun xs => xs.length = n ∧ ∀ x ∈ xs, oa x)
  | 0 => {
    full := by
      rintro xs t ⟨hl, hx⟩
      obtain rfl := List.eq_nil_of_length_eq_zero hl
      rfl
    sound := by
      rintro l xs t hl
      simp only [manyP, Sum.inl.injEq, Prod.mk.injEq] at hl
      obtain ⟨rfl, rfl⟩ := hl
      exact ⟨⟨rfl, fun x hx => by cases hx⟩, rfl⟩
    cut := by
      rintro xs k ⟨hl, hx⟩ hk
      obtain rfl := List.eq_nil_of_length_eq_zero hl
      simp at hk
    err := by
      intro l e hl
      cases hl }
  | n + 1 => {
    full := by
      rintro xs t ⟨hl, hx⟩
      rcases List.eq_nil_or_concat xs with rfl | ⟨ys, y, rfl⟩
      · simp at hl
      rw [List.concat_eq_append] at hl hx ⊢
      have e : ((ys ++ [y]).map ea).flatten = (ys.map ea).flatten ++ ea y := by simp
      have h1 := (Coded.many h n).full ys (ea y ++ t) ⟨by simpa using hl, fun x hx' => hx x (by simp [hx'])⟩
      rw [e, List.append_assoc]
      simp only [manyP, h1, h.full y t (hx y (by simp))]
    sound := by
      rintro l xs t hl
      simp only [manyP] at hl
      cases h1 : manyP p n l with
      | inr e => rw [h1] at hl; cases hl
      | inl z =>
        obtain ⟨ys, u⟩ := z
        rw [h1] at hl
        simp only at hl
        cases h2 : p u with
        | inr e => rw [h2] at hl; cases hl
        | inl z =>
          obtain ⟨y, v⟩ := z
          rw [h2] at hl
          simp only [Sum.inl.injEq, Prod.mk.injEq] at hl
          obtain ⟨rfl, rfl⟩ := hl
          obtain ⟨⟨a1, a2⟩, a3⟩ := (Coded.many h n).sound _ _ _ h1
          obtain ⟨b1, b2⟩ := h.sound _ _ _ h2
          refine ⟨⟨by simp [a1], fun x hx => ?_⟩, ?_⟩
          · rcases List.mem_append.1 hx with hx | hx
            · exact a2 x hx
            · rw [List.mem_singleton.1 hx]; exact b1
          · rw [a3, b2]; simp
    cut := by
      rintro xs k ⟨hl, hx⟩ hk
      rcases List.eq_nil_or_concat xs with rfl | ⟨ys, y, rfl⟩
      · simp at hl
      rw [List.concat_eq_append] at hl hx hk ⊢
      have e : ((ys ++ [y]).map ea).flatten = (ys.map ea).flatten ++ ea y := by simp
      have hok : ys.length = n ∧ ∀ x ∈ ys, oa x := ⟨by simpa using hl, fun x hx' => hx x (by simp [hx'])⟩
      simp only [e] at hk ⊢
      by_cases hky : k < ((ys.map ea).flatten).length
      · rw [List.take_append_of_le_length (by omega)]
        have := (Coded.many h n).cut ys k hok hky
        simp only [manyP, this]
      · rw [List.length_append] at hk
        rw [List.take_append, List.take_of_length_le (by omega)]
        have h1 := (Coded.many h n).full ys ((ea y).take (k - ((ys.map ea).flatten).length)) hok
        have h2 := h.cut y (k - ((ys.map ea).flatten).length) (hx y (by simp)) (by omega)
        simp only [manyP, h1, h2]
    err := by
      intro l e hl
      simp only [manyP] at hl
      cases h1 : manyP p n l with
      | inr e2 =>
        rw [h1] at hl
        simp only [Sum.inr.injEq] at hl
        subst hl
        exact (Coded.many h n).err _ _ h1
      | inl z =>
        obtain ⟨ys, u⟩ := z
        rw [h1] at hl
        simp only at hl
        cases h2 : p u with
        | inl e => rw [h2] at hl; cases hl
        | inr e2 =>
          rw [h2] at hl
          simp only [Sum.inr.injEq] at hl
          subst hl
          exact h.err _ _ h2 }

theorem snoc_ind {α : Type} {P : List α → Prop} (h0 : P []) (h1 : ∀ l x, P l → P (l ++ [x])) (l : List α) : P l := by
  have h : ∀ n, ∀ l : List α, l.length = n → P l := by
    intro n
    induction n with
    | zero => intro l hl; rw [List.eq_nil_of_length_eq_zero hl]; exact h0
    | succ n ih =>
      intro l hl
      rcases List.eq_nil_or_concat l with rfl | ⟨ys, y, rfl⟩
      · exact h0
      · rw [List.concat_eq_append] at hl ⊢
        exact h1 ys y (ih ys (by simpa using hl))
  exact h _ l rfl
theorem val_lt (l : Bits) (h : l.length ≤ 64) : (val l).toNat < 2 ^ l.length := by
  induction l using snoc_ind with
  | h0 => decide
  | h1 l b ih =>
    rw [val_snoc]
    have h1 : l.length ≤ 64 := by simp at h; omega
    have h2 : l.length + 1 ≤ 64 := by simpa using h
    have := ih h1
    have hp : 2 ^ l.length ≤ 2 ^ 63 := Nat.pow_le_pow_right (by decide) (by omega)
    have e : (val l <<< 1).toNat = 2 * (val l).toNat := by
      rw [BitVec.toNat_shiftLeft, Nat.shiftLeft_eq, Nat.mod_eq_of_lt (by omega)]; omega
    rw [List.length_append, List.length_singleton, Nat.pow_succ, BitVec.toNat_or, e]
    cases b
    · simp; omega
    · have h6 := Nat.two_pow_add_eq_or_of_lt (b := 1) (i := 1) (by decide) (val l).toNat
      simp only [if_true]
      rw [show (1#64).toNat = 1 by rfl]
      rw [show 2 * (val l).toNat = 2 ^ 1 * (val l).toNat by rfl, ← h6]
      omega
theorem low_val (l : Bits) (h : l.length ≤ 64) : low (val l) l.length = l := by
  have h1 := val_low (val l) l.length h
  rw [Nat.mod_eq_of_lt (val_lt l h)] at h1
  -- the bits of a number tell it
  have inj : ∀ a b : Bits, a.length = b.length → a.length ≤ 64 → val a = val b → a = b := by
    intro a
    induction a using snoc_ind with
    | h0 => intro b hb _ _; exact (List.eq_nil_of_length_eq_zero hb.symm).symm
    | h1 a x ih =>
      intro b hb hle hv
      rcases List.eq_nil_or_concat b with rfl | ⟨b, y, rfl⟩
      · simp at hb
      rw [List.concat_eq_append] at hb hv ⊢
      have hle' : a.length + 1 ≤ 64 := by simpa using hle
      have hb' : a.length = b.length := by simpa using hb
      rw [val_snoc, val_snoc] at hv
      have pa := val_lt a (by omega)
      have pb := val_lt b (by omega)
      have hp : 2 ^ a.length ≤ 2 ^ 63 := Nat.pow_le_pow_right (by decide) (by omega)
      rw [← hb'] at pb
      have ev : ∀ (c : Bits) (z : Bool), (val c).toNat < 2 ^ 63 → (val c <<< 1 ||| (if z then 1#64 else 0#64)).toNat = 2 * (val c).toNat + (if z then 1 else 0) := by
        intro c z hc
        have e : (val c <<< 1).toNat = 2 * (val c).toNat := by
          rw [BitVec.toNat_shiftLeft, Nat.shiftLeft_eq, Nat.mod_eq_of_lt (by omega)]; omega
        rw [BitVec.toNat_or, e]
        cases z
        · simp
        · have h6 := Nat.two_pow_add_eq_or_of_lt (b := 1) (i := 1) (by decide) (val c).toNat
          simp only [if_true]
          rw [show (1#64).toNat = 1 by rfl, show 2 * (val c).toNat = 2 ^ 1 * (val c).toNat by rfl, ← h6]
      have hv' := congrArg BitVec.toNat hv
      rw [ev a x (by omega), ev b y (by omega)] at hv'
      have hxy : x = y := by cases x <;> cases y <;> simp at hv' ⊢ <;> omega
      subst hxy
      rw [ih b hb' (by omega) (BitVec.eq_of_toNat_eq (by omega))]
  exact inj _ _ (low_len _ _) (by rw [low_len]; exact h) (BitVec.eq_of_toNat_eq h1)

theorem good_get (n : Nat) (hn : n ≤ 64) : Coded (fun x : BitVec 64 => low x n) (getP n) (fun x => x.toNat < 2 ^ n) where
  full := by
    intro x t hx
    have h1 : (low x n).length = n := low_len _ _
    simp only [getP]
    rw [if_neg (by rw [List.length_append]; omega), List.take_append_of_le_length (by omega), List.take_of_length_le (by omega), List.drop_append_of_le_length (by omega), List.drop_of_length_le (by omega), List.nil_append]
    have : val (low x n) = x := BitVec.eq_of_toNat_eq (by rw [val_low x n hn, Nat.mod_eq_of_lt hx])
    rw [this]
  sound := by
    intro l x t hl
    simp only [getP] at hl
    split at hl
    · cases hl
    · simp only [Sum.inl.injEq, Prod.mk.injEq] at hl
      obtain ⟨rfl, rfl⟩ := hl
      have h1 : (l.take n).length = n := by rw [List.length_take]; omega
      have h2 := val_lt (l.take n) (by omega)
      have h3 := low_val (l.take n) (by omega)
      rw [h1] at h2 h3
      exact ⟨h2, by rw [h3, List.take_append_drop]⟩
  cut := by
    intro x k hx hk
    rw [low_len] at hk
    simp only [getP]
    rw [if_pos (by rw [List.length_take, low_len]; omega)]
  err := by
    intro l e hl
    simp only [getP] at hl
    split at hl
    · simp only [Sum.inr.injEq] at hl
      subst hl; decide
    · cases hl

theorem lead_app {l t : Bits} (h : lead l < l.length) : lead (l ++ t) = lead l := by
  refine lead_at (fun i hi => ?_) ?_
  · rw [List.getElem?_append_left (by omega)]; exact lead_zero hi
  · rw [List.getElem?_append_left (by omega), lead_one h]; simp

theorem good_num : Coded num numP (fun _ => True) where
  full := by
    intro x t _
    obtain ⟨z, d, h1, h2, h3, h4⟩ := num_shape x
    have hl : (num x).length = 2 * z + 1 := by rw [h1]; simp [zeros_len, h2]; omega
    have hlead : lead (num x ++ t) = z := by
      rw [h1, List.append_assoc, List.cons_append]; exact lead_num z _
    have hrl : (num x ++ t).length = 2 * z + 1 + t.length := by rw [List.length_append, hl]
    have hdrop : ((num x ++ t).drop (z + 1)).take z = d := by
      rw [h1]
      have : zeros z ++ true :: d ++ t = (zeros z ++ [true]) ++ (d ++ t) := by simp
      rw [this, List.drop_append_of_le_length (by simp [zeros_len]), List.drop_of_length_le (by simp [zeros_len]), List.nil_append, List.take_append_of_le_length (by omega), List.take_of_length_le (by omega)]
    have hdr : (num x ++ t).drop (2 * z + 1) = t := by
      rw [List.drop_append_of_le_length (by omega), List.drop_of_length_le (by omega), List.nil_append]
    simp only [numP]
    rw [hlead, if_neg (by omega), if_neg (by omega)]
    rcases h4 with ⟨rfl, hd, rfl⟩ | ⟨h5, h6, _, _⟩
    · rw [if_pos rfl]
      simp only [Nat.reduceAdd, Nat.reduceMul] at hdrop hdr
      rw [hdrop, hd, if_pos (by decide +kernel), hdr]
    · rw [if_neg (by omega), hdrop, h6, hdr]
  sound := by
    intro l x t hl
    refine ⟨trivial, ?_⟩
    simp only [numP] at hl
    split at hl
    · cases hl
    rename_i h65
    split at hl
    · cases hl
    rename_i hlen
    have hz : ∀ i, i < lead l → l[i]? = some false := fun i hi => lead_zero hi
    have ho : l[lead l]? = some true := lead_one (by omega)
    have hsplit : l = zeros (lead l) ++ true :: (l.drop (lead l + 1)) := by
      have h1 : l.take (lead l) = zeros (lead l) := by
        apply List.ext_getElem?
        intro i
        rw [List.getElem?_take]
        split
        · rename_i hi
          rw [hz i hi]; unfold zeros; rw [List.getElem?_replicate, if_pos hi]
        · rename_i hi
          unfold zeros; rw [List.getElem?_replicate, if_neg hi]
      have h2 : l.drop (lead l) = true :: l.drop (lead l + 1) := by
        obtain ⟨h3, h4⟩ := List.getElem?_eq_some_iff.1 ho
        rw [List.drop_eq_getElem_cons h3, h4]
      rw [← h1, ← h2, List.take_append_drop]
    obtain ⟨z, hzd⟩ : ∃ z, z = lead l := ⟨_, rfl⟩
    rw [← hzd] at hl hsplit hlen h65
    split at hl
    · rename_i h64
      subst h64
      split at hl
      · rename_i hv
        simp only [Sum.inl.injEq, Prod.mk.injEq] at hl
        obtain ⟨rfl, rfl⟩ := hl
        have h1 : ((l.drop 65).take 64).length = 64 := by rw [List.length_take, List.length_drop]; omega
        have h2 := low_val ((l.drop 65).take 64) (by omega)
        rw [h1, hv] at h2
        have h3 : low 0#64 64 = zeros 64 := by decide +kernel
        have h4 : num (BitVec.allOnes 64) = zeros 64 ++ true :: zeros 64 := by unfold num; rw [if_pos rfl]; rfl
        have h5 : l.drop 65 = zeros 64 ++ l.drop 129 := by
          rw [← h3, h2, ← List.drop_drop (i := 64) (j := 65), List.take_append_drop]
        simp only [Nat.reduceAdd] at hsplit
        rw [h4, List.append_assoc, List.cons_append, ← h5]
        exact hsplit
      · cases hl
    · rename_i h64
      simp only [Sum.inl.injEq, Prod.mk.injEq] at hl
      obtain ⟨rfl, rfl⟩ := hl
      obtain ⟨d, hd⟩ : ∃ d, d = (l.drop (z + 1)).take z := ⟨_, rfl⟩
      have hdl : d.length = z := by rw [hd, List.length_take, List.length_drop]; omega
      rw [← hd]
      obtain ⟨y, hy⟩ : ∃ y, y = (1#64 <<< z ||| val d) := ⟨_, rfl⟩
      rw [← hy]
      have hvd := val_lt d (by omega)
      rw [hdl] at hvd
      have hpow : 2 ^ z ≤ 2 ^ 63 := Nat.pow_le_pow_right (by decide) (by omega)
      have hyn : y.toNat = 2 ^ z + (val d).toNat := by
        rw [hy, BitVec.toNat_or, BitVec.toNat_shiftLeft, Nat.shiftLeft_eq]
        simp only [BitVec.toNat_ofNat]
        rw [show 1 % 2 ^ 64 = 1 by rfl, Nat.one_mul, Nat.mod_eq_of_lt (by omega)]
        have h6 := Nat.two_pow_add_eq_or_of_lt (b := (val d).toNat) (i := z) hvd 1
        rw [Nat.mul_one] at h6
        rw [← h6]
      have hy0 : y ≠ 0#64 := fun h => by have := congrArg BitVec.toNat h; simp at this; have := Nat.two_pow_pos z; omega
      have hx : y - 1#64 + 1#64 = y := BitVec.sub_add_cancel y 1#64
      have hne : y - 1#64 ≠ BitVec.allOnes 64 := fun h => by
        rw [h] at hx
        apply hy0
        rw [← hx]; decide
      have hlen' : len y.toNat = z + 1 := by
        obtain ⟨a1, a2, a3, a4⟩ := len_spec y hy0
        have b1 : z < len y.toNat := by
          rcases Nat.lt_or_ge z (len y.toNat) with h | h
          · exact h
          · have : 2 ^ len y.toNat ≤ 2 ^ z := Nat.pow_le_pow_right (by decide) h
            omega
        have b2 : len y.toNat - 1 < z + 1 := by
          rcases Nat.lt_or_ge (len y.toNat - 1) (z + 1) with h | h
          · exact h
          · have : 2 ^ (z + 1) ≤ 2 ^ (len y.toNat - 1) := Nat.pow_le_pow_right (by decide) h
            rw [Nat.pow_succ] at this
            omega
        omega
      have hnum : num (y - 1#64) = zeros z ++ true :: d := by
        unfold num
        rw [if_neg hne, hx, hlen']
        simp only [Nat.add_sub_cancel]
        have hbit : y.getLsbD z = true := by
          rw [BitVec.getLsbD, Nat.testBit_eq_decide_div_mod_eq, hyn, Nat.add_comm, Nat.add_div_right _ (Nat.two_pow_pos z), Nat.div_eq_of_lt hvd]; rfl
        have hlow : low y z = d := by
          have h7 := low_val d (by omega)
          rw [hdl] at h7
          rw [← h7]
          apply List.ext_getElem?
          intro i
          by_cases hi : i < z
          · rw [low_get _ _ _ hi, low_get _ _ _ hi]
            congr 1
            rw [hy, BitVec.getLsbD_or, BitVec.getLsbD_shiftLeft]
            have : decide (z - 1 - i < z) = true := by simp; omega
            simp [this]
          · rw [List.getElem?_eq_none (by rw [low_len]; omega), List.getElem?_eq_none (by rw [low_len]; omega)]
        simp only [low, hbit, hlow]
      rw [hnum]
      have h5 : l.drop (z + 1) = d ++ l.drop (2 * z + 1) := by
        rw [hd, show 2 * z + 1 = (z + 1) + z by omega, ← List.drop_drop (i := z) (j := z + 1), List.take_append_drop]
      conv => lhs; rw [hsplit]
      rw [h5]
      simp
  cut := by
    intro x k _ hk
    obtain ⟨z, d, h1, h2, h3, h4⟩ := num_shape x
    have hl : (num x).length = 2 * z + 1 := by rw [h1]; simp [zeros_len, h2]; omega
    have hrl : ((num x).take k).length = k := by rw [List.length_take]; omega
    have hz : ∀ i, i < z → (num x)[i]? = some false := fun i hi => by
      rw [h1, List.getElem?_append_left (by rw [zeros_len]; exact hi)]
      unfold zeros; rw [List.getElem?_replicate, if_pos hi]
    have hzo : (num x)[z]? = some true := by
      rw [h1, List.getElem?_append_right (by rw [zeros_len]; omega), zeros_len, Nat.sub_self]; rfl
    simp only [numP]
    by_cases hkz : k ≤ z
    · have hlead : lead ((num x).take k) = k := lead_at (fun i hi => by rw [List.getElem?_take, if_pos hi]; exact hz i (by omega)) (by rw [List.getElem?_eq_none (by omega)]; simp)
      rw [hlead, if_neg (by omega), if_pos (by omega)]
    · have hlead : lead ((num x).take k) = z := lead_at (fun i hi => by rw [List.getElem?_take, if_pos (by omega)]; exact hz i hi) (by rw [List.getElem?_take, if_pos (by omega), hzo]; simp)
      rw [hlead, if_neg (by omega), if_pos (by omega)]
  err := by
    intro l e hl
    simp only [numP] at hl
    split at hl
    · simp only [Sum.inr.injEq] at hl
      subst hl; decide
    split at hl
    · simp only [Sum.inr.injEq] at hl
      subst hl; decide
    split at hl
    · split at hl
      · cases hl
      · simp only [Sum.inr.injEq] at hl
        subst hl; decide
    · cases hl

/-! the reader that the code has, and the stream that it reads -/
def runS {α : Type} (p : Pr α) (d : α) : St → α × St
  | .inl l => (match p l with
    | .inl x => (x.1, .inl x.2)
    | .inr e => (d, .inr e))
  | .inr e => (d, .inr e)
def failS : St → Int → St
  | .inl _, e => .inr e
  | .inr e', _ => .inr e'
def errS : St → Int
  | .inl _ => 0
  | .inr e => e
def endS : St → Int
  | .inl l => if 7 < l.length ∨ l.any id = true then 12 else 0
  | .inr e => e
def IsS (b : Bytes) (r : Rd) : St → Prop
  | .inl l => r.bad = 0 ∧ rest b r = l
  | .inr e => e ≠ 0 ∧ r.bad = e

theorem rest_skip (b : Bytes) (r : Rd) (k : Nat) (h0 : r.bad = 0) : rest b ⟨r.at_ + k, 0⟩ = (rest b r).drop k := by
  unfold rest; rw [if_pos h0, if_pos rfl, List.drop_drop]
theorem getR_S {b : Bytes} {r : Rd} {s : St} (h : IsS b r s) (n : Int) : (getR b r n).1 = (runS (getP (clamp n)) 0#64 s).1 ∧ IsS b (getR b r n).2 (runS (getP (clamp n)) 0#64 s).2 := by
  cases s with
  | inl l =>
    obtain ⟨h0, rfl⟩ := h
    unfold getR
    simp only [runS, getP]
    rw [← rest_len]
    by_cases hl : (rest b r).length < clamp n
    · rw [if_pos hl, if_pos hl]
      exact ⟨rfl, by decide, by unfold failed; rw [if_pos h0]⟩
    · rw [if_neg hl, if_neg hl]
      refine ⟨rfl, h0, ?_⟩
      rw [h0]; exact rest_skip b r _ h0
  | inr e =>
    obtain ⟨he, h0⟩ := h
    have hb : r.bad ≠ 0 := by rw [h0]; exact he
    unfold getR
    simp only [runS]
    have hl : left b r = 0 := by unfold left; rw [if_neg hb]
    have hr : rest b r = [] := by unfold rest; rw [if_neg hb]
    rw [hl, hr]
    by_cases hc : 0 < clamp n
    · rw [if_pos hc]
      exact ⟨rfl, he, by unfold failed; simp only; rw [if_neg hb, h0]⟩
    · rw [if_neg hc]
      exact ⟨by simp [val], he, h0⟩
theorem numR_S {b : Bytes} {r : Rd} {s : St} (h : IsS b r s) : (numR b r).1 = (runS numP 0#64 s).1 ∧ IsS b (numR b r).2 (runS numP 0#64 s).2 := by
  cases s with
  | inl l =>
    obtain ⟨h0, rfl⟩ := h
    unfold numR
    rw [if_neg (by simp [h0])]
    simp only [runS, numP]
    by_cases h65 : 65 ≤ lead (rest b r)
    · rw [if_pos h65, if_pos h65]; exact ⟨rfl, by decide, rfl⟩
    rw [if_neg h65, if_neg h65]
    by_cases hl : lead (rest b r) = (rest b r).length
    · rw [if_pos hl, if_pos (by omega)]; exact ⟨rfl, by decide, rfl⟩
    rw [if_neg hl]
    by_cases hs : (rest b r).length < 2 * lead (rest b r) + 1
    · rw [if_pos hs, if_pos hs]; exact ⟨rfl, by decide, rfl⟩
    rw [if_neg hs, if_neg hs]
    by_cases h64 : lead (rest b r) = 64
    · rw [if_pos h64, if_pos h64]
      by_cases hv : val (((rest b r).drop 65).take 64) = 0#64
      · rw [if_pos hv, if_pos hv]; exact ⟨rfl, rfl, rest_skip b r _ h0⟩
      · rw [if_neg hv, if_neg hv]; exact ⟨rfl, by decide, rfl⟩
    · rw [if_neg h64, if_neg h64]; exact ⟨rfl, rfl, rest_skip b r _ h0⟩
  | inr e =>
    obtain ⟨he, h0⟩ := h
    unfold numR
    rw [if_pos (by rw [h0]; exact he)]
    exact ⟨rfl, he, h0⟩
theorem intR_S {b : Bytes} {r : Rd} {s : St} (h : IsS b r s) : (intR b r).1 = (runS intP 0 s).1 ∧ IsS b (intR b r).2 (runS intP 0 s).2 := by
  obtain ⟨h1, h2⟩ := numR_S h
  unfold intR
  rw [h1]
  cases s with
  | inl l =>
    simp only [runS, intP, mapP] at h2 ⊢
    cases hp : numP l with
    | inl x => rw [hp] at h2; exact ⟨rfl, h2⟩
    | inr e => rw [hp] at h2; exact ⟨(by decide +kernel : unzig 0#64 = 0), h2⟩
  | inr e => exact ⟨by show unzig 0#64 = 0; decide +kernel, h2⟩
theorem fail_S {b : Bytes} {r : Rd} {s : St} (h : IsS b r s) (e : Int) (he : e ≠ 0) : IsS b (failed r e) (failS s e) := by
  cases s with
  | inl l => obtain ⟨h0, _⟩ := h; exact ⟨he, by unfold failed; simp only; rw [if_pos h0]⟩
  | inr e' => obtain ⟨he', h0⟩ := h; exact ⟨he', by unfold failed; simp only; rw [if_neg (by rw [h0]; exact he'), h0]⟩
theorem err_S {b : Bytes} {r : Rd} {s : St} (h : IsS b r s) : r.bad = errS s := by
  cases s with
  | inl l => exact h.1
  | inr e => exact h.2
theorem end_S {b : Bytes} {r : Rd} {s : St} (h : IsS b r s) : endR b r = endS s := by
  cases s with
  | inl l =>
    obtain ⟨h0, rfl⟩ := h
    unfold endR endS
    rw [if_neg (by simp [h0])]
  | inr e =>
    obtain ⟨he, h0⟩ := h
    unfold endR endS
    rw [if_pos (by rw [h0]; exact he), h0]
/-! all of some bytes -/
def allP {α : Type} (p : Pr α) (l : Bits) : Sum α Int := match p l with
  | .inl x => if endS (.inl x.2) = 0 then .inl x.1 else .inr 12
  | .inr e => .inr e
theorem end_zeros (t : Nat) (h : t ≤ 7) : endS (.inl (zeros t)) = 0 := by
  simp only [endS]
  rw [if_neg]
  rintro (h2 | h2)
  · rw [zeros_len] at h2; omega
  · rw [List.any_eq_true] at h2
    obtain ⟨x, hx, hx2⟩ := h2
    have := List.eq_of_mem_replicate hx
    subst this
    simp at hx2
theorem end_ok {t : Bits} (h : endS (.inl t) = 0) : t.length ≤ 7 ∧ t = zeros t.length := by
  simp only [endS] at h
  split at h
  · cases h
  · rename_i hn
    refine ⟨by omega, ?_⟩
    have : ∀ x ∈ t, x = false := fun x hx => by
      cases x with
      | false => rfl
      | true => exact absurd (Or.inr (List.any_eq_true.2 ⟨true, hx, rfl⟩)) hn
    exact List.eq_replicate_iff.2 ⟨rfl, this⟩
theorem bitsOf_inj : ∀ {a b : Bytes}, bitsOf a = bitsOf b → a = b
  | [], [], _ => rfl
  | x :: a, y :: b, h => by
    rw [bitsOf_cons, bitsOf_cons] at h
    obtain ⟨h1, h2⟩ := List.append_inj h (by rw [low_len, low_len])
    have h3 := congrArg (fun l => (val l).toNat) h1
    rw [val_low _ _ (by decide), val_low _ _ (by decide), BitVec.toNat_setWidth, BitVec.toNat_setWidth] at h3
    have hx := x.isLt
    have hy := y.isLt
    have e : x = y := BitVec.eq_of_toNat_eq (by omega)
    rw [e, bitsOf_inj h2]
  | [], y :: b, h => by have := congrArg List.length h; rw [bitsOf_len, bitsOf_len] at this; simp at this
  | x :: a, [], h => by have := congrArg List.length h; rw [bitsOf_len, bitsOf_len] at this; simp at this
theorem bits_pad {b : Bytes} {l : Bits} {k : Nat} (h : bitsOf b = l ++ zeros k) (hk : k ≤ 7) : b = pack l := by
  apply bitsOf_inj
  rw [bitsOf_pack, h]
  have h1 := congrArg List.length h
  rw [bitsOf_len, List.length_append, zeros_len] at h1
  congr 2
  omega
theorem allP_enc {α : Type} {enc : α → Bits} {p : Pr α} {ok : α → Prop} (h : Coded enc p ok) {x : α} (hx : ok x) : allP p (bitsOf (pack (enc x))) = .inl x := by
  unfold allP
  rw [bitsOf_pack, h.full x _ hx]
  simp only
  rw [if_pos (end_zeros _ (by omega))]
theorem allP_ok {α : Type} {enc : α → Bits} {p : Pr α} {ok : α → Prop} (h : Coded enc p ok) {b : Bytes} {x : α} (hx : allP p (bitsOf b) = .inl x) : ok x ∧ b = pack (enc x) := by
  unfold allP at hx
  cases h1 : p (bitsOf b) with
  | inr e => rw [h1] at hx; cases hx
  | inl z =>
    obtain ⟨y, t⟩ := z
    rw [h1] at hx
    simp only at hx
    split at hx
    · rename_i he
      simp only [Sum.inl.injEq] at hx
      subst hx
      obtain ⟨a1, a2⟩ := h.sound _ _ _ h1
      obtain ⟨b1, b2⟩ := end_ok he
      exact ⟨a1, bits_pad (by rw [a2]; congr 1) b1⟩
    · cases hx
theorem allP_cut {α : Type} {enc : α → Bits} {p : Pr α} {ok : α → Prop} (h : Coded enc p ok) {x : α} (hx : ok x) {k : Nat} (hk : k < (pack (enc x)).length) : allP p (bitsOf ((pack (enc x)).take k)) = .inr 10 := by
  have hl : 8 * k < (enc x).length := by rw [pack_len] at hk; omega
  unfold allP
  rw [bitsOf_take _ _ (by omega), bitsOf_pack, List.take_append_of_le_length (by omega), h.cut x _ hx hl]
theorem allP_more {α : Type} {enc : α → Bits} {p : Pr α} {ok : α → Prop} (h : Coded enc p ok) {x : α} (hx : ok x) (c : BitVec 8) : allP p (bitsOf (pack (enc x) ++ [c])) = .inr 12 := by
  unfold allP
  have h1 : (bitsOf [c]).length = 8 := by rw [bitsOf_len]; rfl
  rw [bitsOf_app, bitsOf_pack, List.append_assoc, h.full x _ hx]
  simp only
  rw [if_neg]
  simp only [endS]
  rw [if_pos (.inl (by rw [List.length_append]; omega))]
  decide
theorem allP_err {α : Type} {enc : α → Bits} {p : Pr α} {ok : α → Prop} (h : Coded enc p ok) {l : Bits} {e : Int} (hx : allP p l = .inr e) : e ≠ 0 := by
  unfold allP at hx
  cases h1 : p l with
  | inr e' =>
    rw [h1] at hx
    simp only [Sum.inr.injEq] at hx
    subst hx
    exact h.err _ _ h1
  | inl z =>
    rw [h1] at hx
    simp only at hx
    split at hx
    · cases hx
    · simp only [Sum.inr.injEq] at hx
      subst hx; decide
theorem start_S (b : Bytes) : IsS b ⟨0, 0⟩ (.inl (bitsOf b)) := ⟨rfl, rest_zero b⟩
end Go.Proofs.Ytmmgnbdngpkfcaa.Bts

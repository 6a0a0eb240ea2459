
/-
  Bits: what is written is what is read: the plain laws.
-/
import Derived.Test.YtmmgnbdngpkfcaaBtsRd
namespace Go.Proofs.Ytmmgnbdngpkfcaa.Bts
set_option linter.unusedVariables false

theorem zeros_len (n : Nat) : (zeros n).length = n := by simp [zeros]
theorem bitsOf_pack (l : Bits) : bitsOf (pack l) = l ++ zeros (8 * ((l.length + 7) / 8) - l.length) := by
  apply List.ext_getElem?
  intro p
  by_cases hp : p / 8 < (pack l).length
  · rw [bitsOf_get _ _ hp, pack_get]
    unfold packAt
    rw [pk_get _ _ (by omega), show 8 * (p / 8) + p % 8 = p by omega]
    rw [pack_len] at hp
    by_cases h : p < l.length
    · rw [List.getElem?_append_left h, List.getD, List.getElem?_eq_getElem h]; rfl
    · rw [List.getElem?_append_right (by omega), List.getD, List.getElem?_eq_none (by omega)]
      unfold zeros
      rw [List.getElem?_replicate, if_pos (by omega)]; rfl
  · have h1 : (bitsOf (pack l)).length = 8 * ((l.length + 7) / 8) := by rw [bitsOf_len, pack_len]
    rw [pack_len] at hp
    rw [List.getElem?_eq_none (by omega), List.getElem?_eq_none (by rw [List.length_append, zeros_len]; omega)]

theorem val_low (y : BitVec 64) (n : Nat) (hn : n ≤ 64) : (val (low y n)).toNat = y.toNat % 2 ^ n := by
  induction n with
  | zero => simp [low, val, Nat.mod_one]
  | succ n ih =>
    have e : low y (n + 1) = [y.getLsbD n] ++ low y n := rfl
    have hlt : y.toNat % 2 ^ n < 2 ^ n := Nat.mod_lt _ (Nat.two_pow_pos n)
    have hpow : 2 ^ n ≤ 2 ^ 63 := Nat.pow_le_pow_right (by decide) (by omega)
    have hbit : (y.getLsbD n) = decide (y.toNat / 2 ^ n % 2 = 1) := by
      rw [BitVec.getLsbD, Nat.testBit_eq_decide_div_mod_eq]
    rw [e, val_app, low_len, BitVec.toNat_or, ih (by omega), BitVec.toNat_shiftLeft, Nat.shiftLeft_eq]
    have hv : (val [y.getLsbD n]).toNat = y.toNat / 2 ^ n % 2 := by
      rw [hbit]
      by_cases h : y.toNat / 2 ^ n % 2 = 1
      · rw [h]; simp [val]
      · have : y.toNat / 2 ^ n % 2 = 0 := by omega
        rw [this]; simp [val]
    rw [hv]
    have h1 : y.toNat / 2 ^ n % 2 * 2 ^ n < 2 ^ 64 := by
      have : y.toNat / 2 ^ n % 2 ≤ 1 := by omega
      have := Nat.mul_le_mul_right (2 ^ n) this
      omega
    rw [Nat.mod_eq_of_lt h1, Nat.mul_comm, ← Nat.two_pow_add_eq_or_of_lt hlt]
    have h2 : y.toNat % 2 ^ (n + 1) = 2 ^ n * (y.toNat / 2 ^ n % 2) + y.toNat % 2 ^ n := by
      rw [Nat.pow_succ, Nat.mod_mul]; omega
    rw [h2]

theorem aux_spec : ∀ f y, y < 2 ^ f → y < 2 ^ Lib.bitLenAux f y ∧ (y ≠ 0 → 1 ≤ Lib.bitLenAux f y ∧ 2 ^ (Lib.bitLenAux f y - 1) ≤ y) := by
  intro f
  induction f with
  | zero => intro y hy; simp at hy; subst hy; exact ⟨by decide, fun h => absurd rfl h⟩
  | succ f ih =>
    intro y hy
    simp only [Lib.bitLenAux]
    by_cases h0 : y = 0
    · subst h0; simp
    · rw [if_neg h0]
      obtain ⟨h1, h2⟩ := ih (y / 2) (by rw [Nat.pow_succ] at hy; omega)
      refine ⟨?_, fun _ => ⟨by omega, ?_⟩⟩
      · rw [Nat.add_comm 1, Nat.pow_succ]; omega
      · rw [Nat.add_sub_cancel_left]
        by_cases h3 : y / 2 = 0
        · have : y = 1 := by omega
          subst this
          have : Lib.bitLenAux f (1 / 2) = 0 := by cases f <;> simp [Lib.bitLenAux]
          rw [this]; decide
        · obtain ⟨h4, h5⟩ := h2 h3
          obtain ⟨j, hj⟩ : ∃ j, Lib.bitLenAux f (y / 2) = j + 1 := ⟨_, (Nat.sub_add_cancel h4).symm⟩
          rw [hj] at h5 ⊢
          rw [Nat.add_sub_cancel] at h5
          rw [Nat.pow_succ]; omega
theorem len_spec (y : BitVec 64) (h : y ≠ 0#64) : 1 ≤ len y.toNat ∧ len y.toNat ≤ 64 ∧ 2 ^ (len y.toNat - 1) ≤ y.toNat ∧ y.toNat < 2 ^ len y.toNat := by
  have hs := aux_spec 64 y.toNat y.isLt
  have h0 : y.toNat ≠ 0 := fun e => h (BitVec.eq_of_toNat_eq (by simpa using e))
  exact ⟨(hs.2 h0).1, len_le y, (hs.2 h0).2, hs.1⟩
theorem aux_mono : ∀ f x y, x ≤ y → Lib.bitLenAux f x ≤ Lib.bitLenAux f y := by
  intro f
  induction f with
  | zero => intro x y _; exact Nat.le_refl _
  | succ f ih =>
    intro x y h
    simp only [Lib.bitLenAux]
    by_cases h0 : x = 0
    · rw [if_pos h0]; omega
    · rw [if_neg h0, if_neg (by omega)]
      have := ih (x / 2) (y / 2) (by omega)
      omega
/-- a number's bits: so many noughts, a one, as many bits as noughts -/
theorem num_shape (x : BitVec 64) : ∃ z d, num x = zeros z ++ true :: d ∧ d.length = z ∧ z ≤ 64 ∧ ((z = 64 ∧ d = zeros 64 ∧ x = BitVec.allOnes 64) ∨ (z ≤ 63 ∧ (1#64 <<< z ||| val d) - 1#64 = x ∧ z = len (x + 1#64).toNat - 1 ∧ x ≠ BitVec.allOnes 64)) := by
  unfold num
  by_cases hx : x = BitVec.allOnes 64
  · rw [if_pos hx]
    exact ⟨64, zeros 64, rfl, zeros_len 64, by omega, .inl ⟨rfl, rfl, hx⟩⟩
  · rw [if_neg hx]
    obtain ⟨y, hy⟩ : ∃ y, y = x + 1#64 := ⟨_, rfl⟩
    have hy0 : y ≠ 0#64 := by
      intro h0
      apply hx
      rw [hy] at h0
      have := congrArg BitVec.toNat h0
      apply BitVec.eq_of_toNat_eq
      simp at this ⊢
      have := x.isLt; omega
    have hyx : y - 1#64 = x := by rw [hy]; exact BitVec.add_sub_cancel x 1#64
    rw [← hy]
    obtain ⟨h1, h2, h3, h4⟩ := len_spec y hy0
    obtain ⟨z, hz⟩ : ∃ z, len y.toNat = z + 1 := ⟨_, (Nat.sub_add_cancel h1).symm⟩
    rw [hz] at h1 h2 h3 h4 ⊢
    have e9 : z + 1 - 1 = z := rfl
    rw [e9] at h3 ⊢
    have hd : y.toNat / 2 ^ z = 1 := by
      have hp := Nat.two_pow_pos z
      rw [Nat.pow_succ] at h4
      have a : 1 ≤ y.toNat / 2 ^ z := (Nat.le_div_iff_mul_le hp).2 (by omega)
      have b : y.toNat / 2 ^ z < 2 := (Nat.div_lt_iff_lt_mul hp).2 (by omega)
      omega
    have hbit : y.getLsbD z = true := by
      rw [BitVec.getLsbD, Nat.testBit_eq_decide_div_mod_eq, hd]; rfl
    refine ⟨z, low y z, by simp only [low]; rw [hbit], low_len _ _, by omega, .inr ⟨by omega, ?_, rfl, hx⟩⟩
    have e : (1#64 <<< z ||| val (low y z)) = y := by
      apply BitVec.eq_of_toNat_eq
      have hpow : 2 ^ z ≤ 2 ^ 63 := Nat.pow_le_pow_right (by decide) (by omega)
      rw [BitVec.toNat_or, val_low y z (by omega), BitVec.toNat_shiftLeft, Nat.shiftLeft_eq]
      simp only [BitVec.toNat_ofNat]
      rw [show 1 % 2 ^ 64 = 1 by rfl, Nat.one_mul, Nat.mod_eq_of_lt (by omega)]
      have h6 := Nat.two_pow_add_eq_or_of_lt (b := y.toNat % 2 ^ z) (i := z) (Nat.mod_lt _ (Nat.two_pow_pos z)) 1
      rw [Nat.mul_one] at h6
      rw [← h6]
      have := Nat.div_add_mod y.toNat (2 ^ z)
      rw [hd] at this
      omega
    rw [e, hyx]
theorem num_len (x : BitVec 64) : ∃ z, (num x).length = 2 * z + 1 ∧ z ≤ 64 := by
  obtain ⟨z, d, h1, h2, h3, _⟩ := num_shape x
  exact ⟨z, by rw [h1]; simp [zeros_len, h2]; omega, h3⟩
theorem num_len_mono {x y : BitVec 64} (h : x.toNat ≤ y.toNat) : (num x).length ≤ (num y).length := by
  obtain ⟨z, d, h1, h2, h3, h4⟩ := num_shape x
  obtain ⟨z', d', k1, k2, k3, k4⟩ := num_shape y
  have e1 : (num x).length = 2 * z + 1 := by rw [h1]; simp [zeros_len, h2]; omega
  have e2 : (num y).length = 2 * z' + 1 := by rw [k1]; simp [zeros_len, k2]; omega
  rw [e1, e2]
  rcases k4 with ⟨rfl, _⟩ | ⟨a1, a2, a3, a4⟩
  · omega
  · rcases h4 with ⟨rfl, _, hx⟩ | ⟨b1, b2, b3, b4⟩
    · exfalso
      apply a4
      subst hx
      apply BitVec.eq_of_toNat_eq
      have := y.isLt
      simp at h ⊢; omega
    · have hx : x.toNat < 2 ^ 64 - 1 := by
        have := x.isLt
        rcases Nat.lt_or_ge x.toNat (2 ^ 64 - 1) with h | h
        · exact h
        · exact absurd (BitVec.eq_of_toNat_eq (by simp; omega)) b4
      have hy : y.toNat < 2 ^ 64 - 1 := by
        have := y.isLt
        rcases Nat.lt_or_ge y.toNat (2 ^ 64 - 1) with h | h
        · exact h
        · exact absurd (BitVec.eq_of_toNat_eq (by simp; omega)) a4
      have hm := aux_mono 64 (x + 1#64).toNat (y + 1#64).toNat (by simp; omega)
      unfold len Lib.bitLen at a3 b3
      omega

/-- a number at the front is read -/
theorem numR_num {b : Bytes} {r : Rd} {x : BitVec 64} {t : Bits} (h0 : r.bad = 0) (h : rest b r = num x ++ t) : numR b r = (x, ⟨r.at_ + (num x).length, 0⟩) := by
  obtain ⟨z, d, h1, h2, h3, h4⟩ := num_shape x
  have hl : (num x).length = 2 * z + 1 := by rw [h1]; simp [zeros_len, h2]; omega
  have hlead : lead (rest b r) = z := by
    rw [h, h1]
    refine lead_at (fun i hi => ?_) ?_
    · rw [List.getElem?_append_left (by simp [zeros_len]; omega), List.getElem?_append_left (by rw [zeros_len]; exact hi)]
      unfold zeros; rw [List.getElem?_replicate, if_pos hi]
    · rw [List.getElem?_append_left (by simp [zeros_len]), List.getElem?_append_right (by rw [zeros_len]; omega), zeros_len, Nat.sub_self]
      simp
  have hrl : (rest b r).length = 2 * z + 1 + t.length := by rw [h, List.length_append, hl]
  have hdrop : ((rest b r).drop (z + 1)).take z = d := by
    rw [h, h1]
    have : zeros z ++ true :: d ++ t = (zeros z ++ [true]) ++ (d ++ t) := by simp
    rw [this, List.drop_append_of_le_length (by simp [zeros_len]), List.drop_of_length_le (by simp [zeros_len]), List.nil_append, List.take_append_of_le_length (by omega), List.take_of_length_le (by omega)]
  unfold numR
  rw [if_neg (by simp [h0]), hlead, if_neg (by omega), if_neg (by omega), if_neg (by omega), hl]
  rcases h4 with ⟨rfl, hd, rfl⟩ | ⟨h5, h6, _, _⟩
  · rw [if_pos rfl]
    simp only [Nat.reduceAdd] at hdrop
    rw [hdrop, hd, if_pos (by decide +kernel)]
  · rw [if_neg (by omega), hdrop, h6]
/-- a number cut off is too short -/
theorem numR_cut {b : Bytes} {r : Rd} {x : BitVec 64} {k : Nat} (h0 : r.bad = 0) (hk : k < (num x).length) (h : rest b r = (num x).take k) : (numR b r).1 = 0#64 ∧ (numR b r).2.bad = 10 := by
  obtain ⟨z, d, h1, h2, h3, h4⟩ := num_shape x
  have hl : (num x).length = 2 * z + 1 := by rw [h1]; simp [zeros_len, h2]; omega
  have hrl : (rest b r).length = k := by rw [h, List.length_take]; omega
  have hz : ∀ i, i < z → (num x)[i]? = some false := fun i hi => by
    rw [h1, List.getElem?_append_left (by rw [zeros_len]; exact hi)]
    unfold zeros; rw [List.getElem?_replicate, if_pos hi]
  have hzo : (num x)[z]? = some true := by
    rw [h1, List.getElem?_append_right (by rw [zeros_len]; omega), zeros_len, Nat.sub_self]; rfl
  unfold numR
  rw [if_neg (by simp [h0])]
  by_cases hkz : k ≤ z
  · have hlead : lead (rest b r) = k := lead_at (fun i hi => by rw [h, List.getElem?_take, if_pos hi]; exact hz i (by omega)) (by rw [List.getElem?_eq_none (by omega)]; simp)
    rw [hlead, if_neg (by omega), if_pos hrl.symm]
    exact ⟨rfl, rfl⟩
  · have hlead : lead (rest b r) = z := lead_at (fun i hi => by rw [h, List.getElem?_take, if_pos (by omega)]; exact hz i hi) (by rw [h, List.getElem?_take, if_pos (by omega), hzo]; simp)
    rw [hlead, if_neg (by omega), if_neg (by omega), if_pos (by omega)]
    exact ⟨rfl, rfl⟩
/-- bits at the front are read -/
theorem getR_put {b : Bytes} {r : Rd} {x : BitVec 64} {n : Int} {t : Bits} (h0 : r.bad = 0) (h : rest b r = put x n ++ t) : getR b r n = (val (low x (clamp n)), ⟨r.at_ + (put x n).length, r.bad⟩) := by
  have hl : (put x n).length = clamp n := low_len _ _
  unfold getR
  rw [if_neg (by rw [← rest_len, h, List.length_append, hl]; omega), h, List.take_append_of_le_length (by omega), List.take_of_length_le (by omega), hl]
  rfl
theorem unzig_zig (i : Int) (hi : -9223372036854775808 ≤ i ∧ i ≤ 9223372036854775807) : unzig (zig i) = i := by
  unfold zig
  by_cases h : i < 0
  · rw [if_pos h]
    obtain ⟨n, hn⟩ : ∃ n : Nat, -(i + 1) = (n : Int) := ⟨(-(i + 1)).toNat, by omega⟩
    rw [hn, BitVec.ofInt_natCast]
    have e : (BitVec.ofNat 64 n * 2#64 + 1#64).toNat = 2 * n + 1 := by
      rw [BitVec.toNat_add, BitVec.toNat_mul]
      simp only [BitVec.toNat_ofNat]; omega
    unfold unzig
    rw [e, if_pos (by omega)]
    omega
  · rw [if_neg h]
    obtain ⟨n, hn⟩ : ∃ n : Nat, i = (n : Int) := ⟨i.toNat, by omega⟩
    subst hn
    rw [BitVec.ofInt_natCast]
    have e : (BitVec.ofNat 64 n * 2#64).toNat = 2 * n := by
      rw [BitVec.toNat_mul]
      simp only [BitVec.toNat_ofNat]; omega
    unfold unzig
    rw [e, if_neg (by omega)]
    omega
theorem rest_zero (b : Bytes) : rest b ⟨0, 0⟩ = bitsOf b := by simp [rest]
theorem bitsOf_take (b : Bytes) (k : Nat) (hk : k ≤ b.length) : bitsOf (b.take k) = (bitsOf b).take (8 * k) := by
  have e : bitsOf b = bitsOf (b.take k) ++ bitsOf (b.drop k) := by rw [← bitsOf_app, List.take_append_drop]
  have hl : (bitsOf (b.take k)).length = 8 * k := by rw [bitsOf_len, List.length_take]; omega
  conv => rhs; rw [e]
  rw [List.take_append_of_le_length (by omega), List.take_of_length_le (l := bitsOf (b.take k)) (by omega)]
end Go.Proofs.Ytmmgnbdngpkfcaa.Bts

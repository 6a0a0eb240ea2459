
/-
  Readers of bits, one behind the other: what a reader that goes on and stops at its first fault tells of the whole.
-/
import Derived.Test.YtmmgnbdngpkfcaaPars
namespace Go.Proofs.Ytmmgnbdngpkfcaa.Bts
set_option linter.unusedVariables false

/-- read by p, from s on: x, and where it stands then -/
def Go {α : Type} (p : Pr α) (s : St) (x : α) (s' : St) : Prop := match s with
  | .inl l => (match p l with
    | .inl y => x = y.1 ∧ s' = .inl y.2
    | .inr e => s' = .inr e)
  | .inr e => s' = .inr e
theorem go_inr {α : Type} {p : Pr α} {e : Int} {x : α} : Go p (.inr e) x (.inr e) := rfl
theorem go_run {α : Type} (p : Pr α) (d : α) (s : St) : Go p s (runS p d s).1 (runS p d s).2 := by
  cases s with
  | inr e => rfl
  | inl l =>
    simp only [Go, runS]
    cases p l with
    | inl y => exact ⟨rfl, rfl⟩
    | inr e => rfl
theorem go_map {α β : Type} {p : Pr α} {s s' : St} {x : α} (f : α → β) (h : Go p s x s') : Go (mapP f p) s (f x) s' := by
  cases s with
  | inr e => exact h
  | inl l =>
    simp only [Go, mapP] at h ⊢
    cases hp : p l with
    | inl y => rw [hp] at h; obtain ⟨rfl, rfl⟩ := h; exact ⟨rfl, rfl⟩
    | inr e => rw [hp] at h; exact h
theorem go_bind {α β : Type} {p : Pr α} {q : α → Pr β} {s s1 s2 : St} {x : α} {y : β} (h : Go p s x s1) (h2 : Go (q x) s1 y s2) : Go (bindP p q) s (x, y) s2 := by
  cases s with
  | inr e => simp only [Go] at h; subst h; exact h2
  | inl l =>
    simp only [Go, bindP] at h ⊢
    cases hp : p l with
    | inr e => rw [hp] at h; simp only at h; subst h; exact h2
    | inl z =>
      rw [hp] at h
      obtain ⟨rfl, rfl⟩ := h
      simp only [Go] at h2 ⊢
      cases hq : q z.1 z.2 with
      | inr e => rw [hq] at h2; exact h2
      | inl y' => rw [hq] at h2; obtain ⟨rfl, rfl⟩ := h2; exact ⟨rfl, rfl⟩
/-- a fault that is told of what was read -/
def filtE {α : Type} (c : α → Int) (p : Pr α) : Pr α := fun l => match p l with
  | .inl x => if c x.1 = 0 then .inl x else .inr (c x.1)
  | .inr e' => .inr e'
theorem go_filt {α : Type} {p : Pr α} {s s1 : St} {x : α} (c : α → Bool) (e : Int) (h : Go p s x s1) : Go (filtP c e p) s x (if c x = true then s1 else failS s1 e) := by
  cases s with
  | inr e => simp only [Go] at h ⊢; subst h; split <;> rfl
  | inl l =>
    simp only [Go, filtP] at h ⊢
    cases hp : p l with
    | inr e' => rw [hp] at h; simp only at h ⊢; subst h; split <;> rfl
    | inl z =>
      rw [hp] at h
      obtain ⟨rfl, rfl⟩ := h
      simp only
      by_cases hc : c z.1 = true
      · rw [if_pos hc, if_pos hc]; exact ⟨rfl, rfl⟩
      · rw [if_neg hc, if_neg hc]; rfl
theorem go_filtE {α : Type} {p : Pr α} {s s1 : St} {x : α} (c : α → Int) (h : Go p s x s1) : Go (filtE c p) s x (if c x = 0 then s1 else failS s1 (c x)) := by
  cases s with
  | inr e => simp only [Go] at h ⊢; subst h; split <;> rfl
  | inl l =>
    simp only [Go, filtE] at h ⊢
    cases hp : p l with
    | inr e' => rw [hp] at h; simp only at h ⊢; subst h; split <;> rfl
    | inl z =>
      rw [hp] at h
      obtain ⟨rfl, rfl⟩ := h
      simp only
      by_cases hc : c z.1 = 0
      · rw [if_pos hc, if_pos hc]; exact ⟨rfl, rfl⟩
      · rw [if_neg hc, if_neg hc]; rfl
theorem Coded.filtE {α : Type} {ea : α → Bits} {p : Pr α} {oa : α → Prop} (h : Coded ea p oa) (c : α → Int) : Coded ea (filtE c p) (fun x => oa x ∧ c x = 0) where
  full := by
    rintro x t ⟨hx, hc⟩
    simp only [Bts.filtE, h.full x t hx, hc, if_true]
  sound := by
    rintro l x t hl
    simp only [Bts.filtE] at hl
    cases h1 : p l with
    | inr e => rw [h1] at hl; cases hl
    | inl z =>
      rw [h1] at hl
      simp only at hl
      split at hl
      · rename_i hc
        simp only [Sum.inl.injEq] at hl
        subst hl
        obtain ⟨a1, a2⟩ := h.sound _ _ _ h1
        exact ⟨⟨a1, hc⟩, a2⟩
      · cases hl
  cut := by
    rintro x k ⟨hx, hc⟩ hk
    simp only [Bts.filtE, h.cut x k hx hk]
  err := by
    intro l e' hl
    simp only [Bts.filtE] at hl
    cases h1 : p l with
    | inr e2 =>
      rw [h1] at hl
      simp only [Sum.inr.injEq] at hl
      subst hl
      exact h.err _ _ h1
    | inl z =>
      rw [h1] at hl
      simp only at hl
      split at hl
      · cases hl
      · rename_i hc
        simp only [Sum.inr.injEq] at hl
        subst hl
        exact hc

/-- between two rounds of a loop that reads n of them and stops at the first fault -/
def LoopP {α : Type} (p : Pr α) (n : Nat) (s : St) (k : Nat) (xs : List α) (st : St) : Prop := match s with
  | .inl l => (∃ t, k ≤ n ∧ manyP p k l = .inl (xs, t) ∧ st = .inl t) ∨ (∃ e, manyP p n l = .inr e ∧ st = .inr e)
  | .inr e => st = .inr e
theorem loop_start {α : Type} (p : Pr α) (n : Nat) (s : St) : LoopP p n s 0 [] s := by
  cases s with
  | inl l => exact .inl ⟨l, Nat.zero_le _, rfl, rfl⟩
  | inr e => rfl
theorem loop_step {α : Type} {p : Pr α} {n : Nat} {s : St} {k : Nat} {xs : List α} {u : Bits} {x : α} {st' : St} (h : LoopP p n s k xs (.inl u)) (hk : k < n) (h2 : Go p (.inl u) x st') : LoopP p n s (k + 1) (xs ++ [x]) st' := by
  cases s with
  | inr e => cases h
  | inl l =>
    rcases h with ⟨t, hkn, hm, ht⟩ | ⟨e, he, h⟩
    · injection ht with ht
      subst ht
      simp only [Go] at h2
      cases hp : p u with
      | inl y =>
        rw [hp] at h2
        obtain ⟨rfl, rfl⟩ := h2
        exact .inl ⟨y.2, hk, manyP_ok hm hp, rfl⟩
      | inr e =>
        rw [hp] at h2
        exact .inr ⟨e, manyP_err (manyP_bad hm hp) hk, h2⟩
    · cases h
theorem loop_end {α : Type} {p : Pr α} {n : Nat} {s : St} {k : Nat} {xs : List α} {st : St} (h : LoopP p n s k xs st) (hk : k = n ∨ ∃ e, st = .inr e) : Go (manyP p n) s xs st := by
  cases s with
  | inr e => exact h
  | inl l =>
    simp only [Go]
    rcases h with ⟨t, hkn, hm, rfl⟩ | ⟨e, he, rfl⟩
    · rcases hk with rfl | ⟨e, he⟩
      · rw [hm]; exact ⟨rfl, rfl⟩
      · cases he
    · rw [he]
theorem loop_on {α : Type} {p : Pr α} {n : Nat} {s : St} {k k' : Nat} {xs xs' : List α} {e : Int} (h : LoopP p n s k xs (.inr e)) : LoopP p n s k' xs' (.inr e) := by
  cases s with
  | inr e' => exact h
  | inl l =>
    rcases h with ⟨t, _, _, ht⟩ | ⟨e', he, h⟩
    · cases ht
    · exact .inr ⟨e', he, h⟩
theorem go_any {α : Type} {p : Pr α} {s : St} {x y : α} {e : Int} (h : Go p s x (.inr e)) : Go p s y (.inr e) := by
  cases s with
  | inr e' => exact h
  | inl l =>
    simp only [Go] at h ⊢
    cases hp : p l with
    | inl z => rw [hp] at h; cases h.2
    | inr e' => rw [hp] at h; exact h
theorem go_inr_st {α : Type} {p : Pr α} {e : Int} {x : α} {s' : St} (h : Go p (.inr e) x s') : s' = .inr e := h
theorem loop_len {α : Type} {p : Pr α} {n : Nat} {s : St} {k : Nat} {xs : List α} {u : Bits} (h : LoopP p n s k xs (.inl u)) : xs.length = k := by
  cases s with
  | inr e => cases h
  | inl l =>
    rcases h with ⟨t, hkn, hm, ht⟩ | ⟨e, he, h⟩
    · exact manyP_len k hm
    · cases h
/-- the whole of some bits -/
theorem go_all {α : Type} {p : Pr α} {l : Bits} {x : α} {st : St} (h : Go p (.inl l) x st) (he : ∀ e, st = .inr e → e ≠ 0) : (endS st = 0 ∧ allP p l = .inl x) ∨ (endS st ≠ 0 ∧ allP p l = .inr (endS st)) := by
  simp only [Go] at h
  unfold allP
  cases hp : p l with
  | inl y =>
    rw [hp] at h
    obtain ⟨rfl, rfl⟩ := h
    simp only
    by_cases h0 : endS (.inl y.2) = 0
    · rw [if_pos h0]; exact .inl ⟨h0, rfl⟩
    · rw [if_neg h0]
      refine .inr ⟨h0, ?_⟩
      congr 1
      simp only [endS] at h0 ⊢
      split
      · rfl
      · rename_i hn; rw [if_neg hn] at h0; exact absurd rfl h0
  | inr e =>
    rw [hp] at h
    simp only at h
    subst h
    exact .inr ⟨he e rfl, rfl⟩
theorem go_err {α : Type} {ea : α → Bits} {p : Pr α} {oa : α → Prop} (h : Coded ea p oa) {s s' : St} {x : α} (hg : Go p s x s') (h0 : ∀ e, s = .inr e → e ≠ 0) : ∀ e, s' = .inr e → e ≠ 0 := by
  intro e he
  subst he
  cases s with
  | inr e' => simp only [Go] at hg; injection hg with hg; subst hg; exact h0 _ rfl
  | inl l =>
    simp only [Go] at hg
    cases hp : p l with
    | inl y => rw [hp] at hg; cases hg.2
    | inr e' => rw [hp] at hg; injection hg with hg; subst hg; exact h.err _ _ hp

/-! whole numbers -/
theorem unzig_range (x : BitVec 64) : -9223372036854775808 ≤ unzig x ∧ unzig x ≤ 9223372036854775807 := by
  have := x.isLt
  unfold unzig
  split <;> omega
theorem zig_unzig (x : BitVec 64) : zig (unzig x) = x := by
  have hx := x.isLt
  unfold unzig
  split
  · rename_i h
    unfold zig
    rw [if_pos (by omega)]
    have e : -(-((x.toNat / 2 : Nat) : Int) - 1 + 1) = ((x.toNat / 2 : Nat) : Int) := by omega
    rw [e, BitVec.ofInt_natCast]
    apply BitVec.eq_of_toNat_eq
    rw [BitVec.toNat_add, BitVec.toNat_mul]
    simp only [BitVec.toNat_ofNat]; omega
  · rename_i h
    unfold zig
    rw [if_neg (by omega), BitVec.ofInt_natCast]
    apply BitVec.eq_of_toNat_eq
    rw [BitVec.toNat_mul]
    simp only [BitVec.toNat_ofNat]; omega
def i64 (i : Int) : Prop := -9223372036854775808 ≤ i ∧ i ≤ 9223372036854775807
theorem good_int : Coded int intP i64 := by
  refine good_num.map unzig zig int i64 (fun y _ => rfl) (fun y hy => ⟨trivial, unzig_zig y hy⟩) (fun x _ => ⟨unzig_range x, zig_unzig x⟩)
theorem ofInt_nat64 (i : Int) (h0 : 0 ≤ i) (h : i < 18446744073709551616) : ((BitVec.ofInt 64 i).toNat : Int) = i := by
  rw [BitVec.toNat_ofInt]; omega
end Go.Proofs.Ytmmgnbdngpkfcaa.Bts


/-
  What the document's own decoder of histories computes.
-/
import Derived.Test.YtennjoegjghlaaaBookRefE
import Derived.Test.YtennjoegjghlaaaBookDecW2
namespace Go.Proofs.Ytennjoegjghlaaa
open Go.RowKit
set_option linter.unusedVariables false

namespace Bts
theorem numF_P (l : Bits) : (∃ x m, numF l = (x, m, 0) ∧ m ≤ l.length ∧ numP l = .inl (x, l.drop m)) ∨ (∃ e, numF l = (0#64, 0, e) ∧ e ≠ 0 ∧ numP l = .inr e) := by
  unfold numF numP
  by_cases h65 : 65 ≤ lead l
  · rw [if_pos h65, if_pos h65]; exact .inr ⟨11, rfl, by decide, rfl⟩
  rw [if_neg h65, if_neg h65]
  by_cases hs : l.length < 2 * lead l + 1
  · rw [if_pos hs, if_pos hs]; exact .inr ⟨10, rfl, by decide, rfl⟩
  rw [if_neg hs, if_neg hs]
  by_cases h64 : lead l = 64
  · rw [if_pos h64, if_pos h64]
    by_cases hv : val ((l.drop 65).take 64) = 0#64
    · rw [if_pos hv, if_pos hv]; exact .inl ⟨_, 129, rfl, by omega, rfl⟩
    · rw [if_neg hv, if_neg hv]; exact .inr ⟨11, rfl, by decide, rfl⟩
  · rw [if_neg h64, if_neg h64]; exact .inl ⟨_, _, rfl, by omega, rfl⟩
theorem val_cat (a b : Bits) (h : a.length + b.length ≤ 64) : (val (a ++ b)).toNat = (val a).toNat * 2 ^ b.length + (val b).toNat := by
  have h1 := val_lt a (by omega)
  have h2 := val_lt b (by omega)
  have h3 : (val a).toNat * 2 ^ b.length < 2 ^ 64 := by
    have h4 : 2 ^ a.length * 2 ^ b.length ≤ 2 ^ 64 := by rw [← Nat.pow_add]; exact Nat.pow_le_pow_right (by decide) h
    exact Nat.lt_of_lt_of_le (Nat.mul_lt_mul_of_pos_right h1 (Nat.two_pow_pos _)) h4
  rw [val_app, BitVec.toNat_or, BitVec.toNat_shiftLeft, Nat.shiftLeft_eq, Nat.mod_eq_of_lt h3, Nat.mul_comm, ← Nat.two_pow_add_eq_or_of_lt h2]
theorem take_two (l : Bits) (a b : Nat) : l.take (a + b) = l.take a ++ (l.drop a).take b := by rw [List.take_add]
end Bts
namespace Bk
open Bts
/-- an operation, piece by piece -/
theorem op_ref (t : Bits) (z : BitVec 8) (hz : (asB t)[0]? = some z) (key v : BitVec 64) (m : Nat) (e : Int) (h5 : 5 ≤ t.length) (hk : key = val ((t.drop 1).take 4)) (hn : numF (t.drop 5) = (v, m, e)) :
    (e ≠ 0 → opP t = .inr e) ∧ (e = 0 → m ≤ t.length - 5 ∧ (1099511627776 ≤ v.toNat → opP t = .inr 11) ∧ (v.toNat < 1099511627776 → opP t = .inl ((bv z + 1, (key.toNat : Int), (v.toNat : Int)), t.drop (5 + m)))) ∧ key.toNat < 16 ∧ z.toNat < 2 := by
  have hg : getP 5 t = .inl (val (t.take 5), t.drop 5) := by simp only [getP]; rw [if_neg (by omega)]
  cases t with
  | nil => simp at h5
  | cons b t' =>
    have hzb : z = bt b := by simpa [asB] using hz.symm
    have h4 : ((List.drop 1 (b :: t')).take 4).length = 4 := by simp at h5 ⊢; omega
    have hk16 : key.toNat < 16 := by rw [hk]; have := val_lt ((List.drop 1 (b :: t')).take 4) (by omega); rw [h4] at this; exact this
    have hz2 : z.toNat < 2 := by rw [hzb]; cases b <;> decide
    have hy : (val ((b :: t').take 5)).toNat = z.toNat * 16 + key.toNat := by
      rw [show (5 : Nat) = 1 + 4 by rfl, take_two, val_cat _ _ (by rw [h4]; simp), h4, ← hk, hzb]
      congr 1
      cases b <;> rfl
    have hy1 : ((val ((b :: t').take 5)) >>> 4).toNat = z.toNat := by rw [shr, hy]; omega
    have hy2 : ((val ((b :: t').take 5)) &&& 15#64).toNat = key.toNat := by rw [and15, hy]; omega
    refine ⟨fun he => ?_, fun he => ?_, hk16, hz2⟩
    · rcases numF_P ((b :: t').drop 5) with ⟨x, m', h1, h2, h3⟩ | ⟨e', h1, h2, h3⟩
      · rw [hn] at h1
        simp only [Prod.mk.injEq] at h1
        exact absurd h1.2.2 he
      · rw [hn] at h1
        simp only [Prod.mk.injEq] at h1
        obtain ⟨_, _, rfl⟩ := h1
        simp only [opP, mapP, filtP, bindP, hg, h3]
    · rcases numF_P ((b :: t').drop 5) with ⟨x, m', h1, h2, h3⟩ | ⟨e', h1, h2, h3⟩
      · rw [hn] at h1
        simp only [Prod.mk.injEq] at h1
        obtain ⟨rfl, rfl, rfl⟩ := h1
        refine ⟨by rw [List.length_drop] at h2; exact h2, fun h => ?_, fun h => ?_⟩
        · simp only [opP, mapP, filtP, bindP, hg, h3]
          rw [if_neg (by rw [decide_eq_true_eq]; omega)]
        · simp only [opP, mapP, filtP, bindP, hg, h3]
          rw [if_pos (by rw [decide_eq_true_eq]; omega)]
          simp only [hy1, hy2, List.drop_drop]
          rfl
      · rw [hn] at h1
        simp only [Prod.mk.injEq] at h1
        exact absurd (h1.2.2.symm.trans he) h2
theorem op_short (t : Bits) (h : t.length < 5) : opP t = .inr 10 := by
  simp only [opP, mapP, filtP, bindP, getP]
  rw [if_pos h]
theorem ev_short (t : Bits) (h : t.length < 10) : evP t = .inr 10 := by
  simp only [evP, mapP, filtP, bindP, getP]
  rw [if_pos h]
/-- an event, piece by piece -/
theorem ev_ref (t : Bits) (h10 : 10 ≤ t.length) (kd cl no : BitVec 64) (hk : kd = val (t.take 2)) (hc : cl = val ((t.drop 2).take 4)) (hn : no = val ((t.drop 6).take 4)) :
    kd.toNat < 4 ∧ cl.toNat < 16 ∧ no.toNat < 16 ∧ (12 < no.toNat → evP t = .inr 11) ∧ (no.toNat ≤ 12 → (∀ ops u, manyP opP no.toNat (t.drop 10) = .inl (ops, u) → evP t = .inl (((kd.toNat : Int) + 1, (cl.toNat : Int) + 1, ops), u)) ∧ (∀ k e, k ≤ no.toNat → manyP opP k (t.drop 10) = .inr e → evP t = .inr e)) := by
  have hg : getP 10 t = .inl (val (t.take 10), t.drop 10) := by simp only [getP]; rw [if_neg (by omega)]
  have l1 : (t.take 2).length = 2 := by rw [List.length_take]; omega
  have l2 : ((t.drop 2).take 4).length = 4 := by rw [List.length_take, List.length_drop]; omega
  have l3 : ((t.drop 6).take 4).length = 4 := by rw [List.length_take, List.length_drop]; omega
  have b1 : kd.toNat < 4 := by rw [hk]; have := val_lt _ (show (t.take 2).length ≤ 64 by omega); rw [l1] at this; exact this
  have b2 : cl.toNat < 16 := by rw [hc]; have := val_lt _ (show ((t.drop 2).take 4).length ≤ 64 by omega); rw [l2] at this; exact this
  have b3 : no.toNat < 16 := by rw [hn]; have := val_lt _ (show ((t.drop 6).take 4).length ≤ 64 by omega); rw [l3] at this; exact this
  have hx : (val (t.take 10)).toNat = (kd.toNat * 16 + cl.toNat) * 16 + no.toNat := by
    have e : t.take 10 = (t.take 2 ++ (t.drop 2).take 4) ++ (t.drop 6).take 4 := by
      rw [show (10 : Nat) = 6 + 4 by rfl, take_two, show (6 : Nat) = 2 + 4 by rfl, take_two]
    rw [e, val_cat _ _ (by rw [List.length_append, l1, l2, l3]; decide), val_cat _ _ (by rw [l1, l2]; decide), l2, l3, ← hk, ← hc, ← hn]
  have x1 : ((val (t.take 10)) >>> 8).toNat = kd.toNat := by rw [shr, hx]; omega
  have x2 : ((val (t.take 10)) >>> 4 &&& 15#64).toNat = cl.toNat := by rw [and15, shr, hx]; omega
  have x3 : ((val (t.take 10)) &&& 15#64).toNat = no.toNat := by rw [and15, hx]; omega
  refine ⟨b1, b2, b3, fun h => ?_, fun h => ⟨fun ops u hm => ?_, fun k e hk hm => ?_⟩⟩
  · simp only [evP, mapP, filtP, bindP, hg]
    rw [if_neg (by rw [decide_eq_true_eq, x3]; omega)]
  · simp only [evP, mapP, filtP, bindP, hg]
    rw [if_pos (by rw [decide_eq_true_eq, x3]; omega)]
    simp only [x3, hm, x1, x2]
  · have hm' := manyP_err hm hk
    simp only [evP, mapP, filtP, bindP, hg]
    rw [if_pos (by rw [decide_eq_true_eq, x3]; omega)]
    simp only [x3, hm']
/-- all of it -/
theorem dec_ref (l : Bits) (n : BitVec 64) (m : Nat) (e : Int) (hn : numF l = (n, m, e)) :
    (e ≠ 0 → dec l = ([], e)) ∧ (e = 0 → m ≤ l.length ∧ (400 < n.toNat → dec l = ([], 4)) ∧ (n.toNat ≤ 400 → (∀ k e, k ≤ n.toNat → manyP evP k (l.drop m) = .inr e → dec l = ([], e)) ∧
      (∀ es u, manyP evP n.toNat (l.drop m) = .inl (es, u) → dec l = if 7 < u.length ∨ u.any id = true then ([], 12) else (es, 0)))) := by
  rcases numF_P l with ⟨x, m', h1, h2, h3⟩ | ⟨e', h1, h2, h3⟩
  · rw [hn] at h1
    simp only [Prod.mk.injEq] at h1
    obtain ⟨rfl, rfl, rfl⟩ := h1
    refine ⟨fun h => absurd rfl h, fun _ => ⟨h2, fun h => ?_, fun h => ⟨fun k e hk hm => ?_, fun es u hm => ?_⟩⟩⟩
    · simp only [dec, allP, decP, mapP, bindP, filtP, h3]
      rw [if_neg (by rw [decide_eq_true_eq]; omega)]
    · have hm' := manyP_err hm hk
      simp only [dec, allP, decP, mapP, bindP, filtP, h3]
      rw [if_pos (by rw [decide_eq_true_eq]; omega)]
      simp only [hm']
    · simp only [dec, allP, decP, mapP, bindP, filtP, h3]
      rw [if_pos (by rw [decide_eq_true_eq]; omega)]
      simp only [hm]
      by_cases hu : 7 < u.length ∨ u.any id = true
      · have h0 : endS (.inl u) = 12 := by simp only [endS]; rw [if_pos hu]
        rw [if_neg (by rw [h0]; decide), if_pos hu]
      · have h0 : endS (.inl u) = 0 := by simp only [endS]; rw [if_neg hu]
        rw [if_pos h0, if_neg hu]
  · rw [hn] at h1
    simp only [Prod.mk.injEq] at h1
    obtain ⟨rfl, rfl, rfl⟩ := h1
    refine ⟨fun _ => ?_, fun h => absurd h h2⟩
    simp only [dec, allP, decP, mapP, bindP, filtP, h3]
end Bk
end Go.Proofs.Ytennjoegjghlaaa


/-
  Readers of noughts and ones, as the document's own code has them: plain laws, what is left of a slice.
-/
import Derived.Test.YtdpopdgeipgheaaDoorPars2
import Derived.Test.YtdpopdgeipgheaaDoorBtsRefRN
import Derived.Test.YtdpopdgeipgheaaDoorBtsRefText
namespace Go.Proofs.YtdpopdgeipgheaaDoor
open Go.RowKit
set_option linter.unusedVariables false

namespace Bts
theorem numF_P (l : Bits) : (∃ x m, numF l = (x, m, 0) ∧ m ≤ l.length ∧ numP l = .inl (x, l.drop m)) ∨ (∃ e, numF l = (0#64, 0, e) ∧ e ≠ 0 ∧ numP l = .inr e) := by
  unfold numF numP
  by_cases h65 : 65 ≤ lead l
  · rw [if_pos h65, if_pos h65]; exact .inr ⟨11, rfl, by decide, rfl⟩
  rw [if_neg h65, if_neg h65]
  by_cases hs : l.length < 2 * lead l + 1
  · rw [if_pos hs, if_pos hs]; exact .inr ⟨10, rfl, by decide, rfl⟩
  rw [if_neg hs, if_neg hs]
  by_cases h64 : lead l = 64
  · rw [if_pos h64, if_pos h64]
    by_cases hv : val ((l.drop 65).take 64) = 0#64
    · rw [if_pos hv, if_pos hv]; exact .inl ⟨_, 129, rfl, by omega, rfl⟩
    · rw [if_neg hv, if_neg hv]; exact .inr ⟨11, rfl, by decide, rfl⟩
  · rw [if_neg h64, if_neg h64]; exact .inl ⟨_, _, rfl, by omega, rfl⟩
theorem numF_ok {l : Bits} {x : BitVec 64} {m : Nat} (h : numF l = (x, m, 0)) : m ≤ l.length ∧ numP l = .inl (x, l.drop m) := by
  rcases numF_P l with ⟨y, k, h1, h2, h3⟩ | ⟨e, h1, h2, _⟩
  · rw [h] at h1
    simp only [Prod.mk.injEq] at h1
    obtain ⟨rfl, rfl, _⟩ := h1
    exact ⟨h2, h3⟩
  · rw [h] at h1
    simp only [Prod.mk.injEq] at h1
    exact absurd h1.2.2.symm h2
theorem numF_bad {l : Bits} {x : BitVec 64} {m : Nat} {e : Int} (h : numF l = (x, m, e)) (he : e ≠ 0) : numP l = .inr e := by
  rcases numF_P l with ⟨y, k, h1, h2, h3⟩ | ⟨e', h1, h2, h3⟩
  · rw [h] at h1
    simp only [Prod.mk.injEq] at h1
    exact absurd h1.2.2 he
  · rw [h] at h1
    simp only [Prod.mk.injEq] at h1
    rw [h3, h1.2.2]
/-- bytes, one behind the other -/
theorem many_bytes {p : Pr (BitVec 8)} (hp : p = mapP (fun v : BitVec 64 => v.setWidth 8) (getP 8)) (l : Bits) : ∀ m : Nat, (l.length < 8 * m → manyP p m l = .inr 10) ∧ (8 * m ≤ l.length → manyP p m l = .inl (pack (l.take (8 * m)), l.drop (8 * m)))
  | 0 => ⟨fun h => by omega, fun _ => by simp [manyP, pack_nil]⟩
  | m + 1 => by
    obtain ⟨h1, h2⟩ := many_bytes hp l m
    by_cases hm : l.length < 8 * m
    · exact ⟨fun _ => manyP_err (h1 hm) (Nat.le_succ _), fun h => by omega⟩
    · have h3 := h2 (by omega)
      by_cases h8 : l.length < 8 * (m + 1)
      · refine ⟨fun _ => manyP_bad h3 ?_, fun h => by omega⟩
        rw [hp]
        simp only [mapP, getP]
        rw [if_pos (by rw [List.length_drop]; omega)]
      · refine ⟨fun h => absurd h h8, fun _ => ?_⟩
        have h4 : p (l.drop (8 * m)) = .inl ((val ((l.drop (8 * m)).take 8)).setWidth 8, l.drop (8 * (m + 1))) := by
          rw [hp]
          simp only [mapP, getP]
          rw [if_neg (by rw [List.length_drop]; omega), List.drop_drop]
          rfl
        rw [manyP_ok h3 h4]
        congr 2
        apply bitsOf_inj
        have hl8 : ((l.drop (8 * m)).take 8).length = 8 := by rw [List.length_take, List.length_drop]; omega
        have hv := val_lt ((l.drop (8 * m)).take 8) (by omega)
        rw [hl8] at hv
        have hset : ((val ((l.drop (8 * m)).take 8)).setWidth 8).setWidth 64 = val ((l.drop (8 * m)).take 8) := by
          apply BitVec.eq_of_toNat_eq
          rw [BitVec.toNat_setWidth, BitVec.toNat_setWidth]
          omega
        have hlow := low_val ((l.drop (8 * m)).take 8) (by omega)
        rw [hl8] at hlow
        have hz : ∀ k, 8 * k ≤ l.length → bitsOf (pack (l.take (8 * k))) = l.take (8 * k) := fun k hk => by
          have e : (l.take (8 * k)).length = 8 * k := by rw [List.length_take]; omega
          rw [bitsOf_pack, e, show 8 * ((8 * k + 7) / 8) - 8 * k = 0 by omega]
          simp [zeros]
        rw [bitsOf_app, bitsOf_cons, bitsOf_nil, List.append_nil, hset, hlow, hz m (by omega), hz (m + 1) (by omega), show 8 * (m + 1) = 8 * m + 8 by omega, List.take_add]
end Bts

theorem asB_drop (t : Bts.Bits) (i : Nat) : (Bts.asB t).drop i = Bts.asB (t.drop i) := by simp [Bts.asB]
/-- what is left of bits, from i on -/
theorem cutS {ok : Nat → Prop} {w : World} {a : Option Addr} {n c : Nat} {t : Bts.Bits} (hn : n = t.length) (h : Sl EU8 ok w a (Bts.asB t)) (i : Nat) (hi : i ≤ n) (hc : n ≤ c) :
    ∃ a', (∀ W : World, (Instr.slice 30 (.slice a n c) (some (.int .i64 (i : Int))) none none).run Tryd.prog W = .ok (.slice a' (n - i) (c - i)) W) ∧ Sl EU8 ok w a' (Bts.asB (t.drop i)) ∧ n - i = (t.drop i).length := by
  have hl : n = (Bts.asB t).length := by rw [Bts.asB_len]; exact hn
  refine ⟨if c = i then a else a.map (·.add (i * 1)), ?_, ?_, by rw [List.length_drop, hn]⟩
  · obtain ⟨i0, z, hi0, hz, hsz, hby, hzc⟩ := (ti_bytes).info
    intro W
    have e3 : (n : Int) ≤ (c : Int) := by omega
    have e4 : (i : Int) ≤ (n : Int) := by omega
    simp [Instr.slice, run_underlying (ti_bytes).under, Instr.sliceBounds, run_sliceBound, sizeOf, typeInfo, hi0, hsz, hi]
  · have := h.cut (c := c) (i := i) (j := n) hi (by omega) (by omega) (decide (c = i)) (by simp; omega)
    simp only [decide_eq_true_eq] at this
    rw [List.take_of_length_le (by rw [List.length_drop, ← hl]; exact Nat.le_refl _), asB_drop] at this
    exact this
theorem SB.at_ok {ok : Nat → Prop} {w : World} {a : Option Addr} {l : List (BitVec 8)} (h : Sl EU8 ok w a l) (k : Nat) (hk : k < l.length) :
    ∃ b o, a = some ⟨b, o, none⟩ ∧ w.cell? ⟨b, o + k, none⟩ = some (.int .u8 (bv l[k])) ∧ ok b := by
  obtain ⟨b, o, rfl, hb, cs, hr, hc⟩ := h k l[k] (List.getElem?_eq_getElem hk)
  refine ⟨b, o, rfl, ?_, hb⟩
  have hr' : cs = [.int .u8 (bv l[k])] := hr
  subst hr'
  have := hc 0 _ rfl
  simpa [EU8] using this
theorem Sl.only {α : Type} {E : Enc α} {ok S : Nat → Prop} {w w' : World} {a : Option Addr} {l : List α} (hs : 0 < E.sz) (h : Sl E ok w a l) (ho : Only S w w') (hS : ∀ k, ok k → ¬ S k) : Sl E ok w' a l :=
  h.mono hs fun k hk hlt => ⟨ho.block k hlt (hS k hk), hk⟩
end Go.Proofs.YtdpopdgeipgheaaDoor

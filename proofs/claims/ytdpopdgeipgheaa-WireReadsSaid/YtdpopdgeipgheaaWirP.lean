
/-
  Messages, in plain Lean: what is decoded is just what is encoded of it; cut off or turned it is none.
-/
import Derived.Test.YtdpopdgeipgheaaWirE
import Derived.Test.YtdpopdgeipgheaaFrameTurn
namespace Go.Proofs.Ytdpopdgeipgheaa
set_option linter.unusedVariables false

namespace Frm
theorem ith_take (l : Bytes) (n k : Nat) (h : k < n) : ith (l.take n) k = ith l k := by
  unfold ith
  rw [List.getD_eq_getElem?_getD, List.getD_eq_getElem?_getD, List.getElem?_take, if_pos h]
theorem len24_enc (k : Int) (d : Bytes) (hk : 0 ≤ k ∧ k ≤ 255) (hd' : d.length ≤ 65536) : len24 (enc k d) = d.length := by
  obtain ⟨j, rfl⟩ := Int.eq_ofNat_of_zero_le hk.1
  have hg : getBE (enc (j : Int) d) = hd (j : Int) d.length := by
    have := enc_parts (j : Int) d []
    rw [List.append_nil] at this
    rw [this]; exact getBE_be _ _
  have hh := hd_nat j d.length (by omega) (by omega)
  unfold len24
  rw [hg, BitVec.toNat_and]
  have : (16777215#32 : BitVec 32).toNat = 2 ^ 24 - 1 := by decide
  rw [this, Nat.and_two_pow_sub_one_eq_mod, hh]; omega
/-- a frame that is cut off -/
theorem dec_cut_off (k : Int) (d : Bytes) (hk : 0 ≤ k ∧ k ≤ 255) (hd' : d.length ≤ 65536) (m : Nat) (hm : m < 12 + d.length) : dec ((enc k d).take m) = bad 10 := by
  have hl : (enc k d).length = 12 + d.length := enc_len k d
  have hlm : ((enc k d).take m).length = m := by rw [List.length_take]; omega
  by_cases h8 : m < 8
  · exact dec_short (by rw [hlm]; exact h8)
  have h8' : ¬ ((enc k d).take m).length < 8 := by rw [hlm]; exact h8
  have hA0 : sumA (enc k d) = true := by
    have h := dec_enc k d [] hk hd'
    rw [List.append_nil] at h
    cases hs : sumA (enc k d)
    · rw [dec_sumA (by omega) hs] at h
      have := congrArg Got.err h
      simp [bad] at this
    · rfl
  have hA : sumA ((enc k d).take m) = true := by
    rw [← hA0]
    unfold sumA
    rw [ith_take _ _ _ (by omega), ith_take _ _ _ (by omega), ith_take _ _ _ (by omega), ith_take _ _ _ (by omega), List.take_take, show min 4 m = 4 by omega]
  have hL : len24 ((enc k d).take m) = d.length := by
    rw [← len24_enc k d hk hd', len24_nat, len24_nat, ith_take _ _ _ (by omega), ith_take _ _ _ (by omega), ith_take _ _ _ (by omega)]
  exact dec_cut h8' hA (by rw [hL]; omega) (by rw [hL, hlm]; exact hm)
/-- a frame with a byte turned -/
theorem dec_one_turned (k : Int) (d : Bytes) (hk : 0 ≤ k ∧ k ≤ 255) (hd' : d.length ≤ 65536) (p : Nat) (hp : p < 12 + d.length) (x : BitVec 8) (hx : (enc k d)[p]? ≠ some x) : (dec ((enc k d).set p x)).err ≠ 0 := by
  have hl : (enc k d).length = 12 + d.length := enc_len k d
  have he : encs [(k, d)] = enc k d := by simp [encs_cons, encs_nil]
  have hF : ∀ y ∈ [(k, d)], Fine y := fun y hy => by
    rw [List.mem_singleton.1 hy]; exact ⟨hk, hd'⟩
  have hne : (enc k d).set p x ≠ encs [(k, d)] := by
    rw [he]
    intro e
    apply hx
    rw [← e, List.getElem?_set_self (by omega)]
  have ho : off [(k, d)] 1 = 12 + d.length := by rw [off_past (by simp), he, hl]
  obtain ⟨er, h1, h2⟩ := scan_turned [(k, d)] hF 0 (by simp) ((enc k d).set p x) (by rw [he]; simp) p (by rw [off_zero]; omega) (by rw [ho]; exact hp)
    (fun i hi => by rw [he, List.getElem?_set_ne (by rw [ho] at hi; omega)]) (fun _ i hi => by rw [he, List.getElem?_set_ne (by omega)]) hne
  intro h0
  unfold scan at h2
  obtain ⟨m, hm⟩ : ∃ m, ((enc k d).set p x).length = m + 1 := ⟨11 + d.length, by simp; omega⟩
  rw [hm] at h2
  simp only [scanF, hm, h0, if_true] at h2
  rw [if_neg (by omega)] at h2
  have := congrArg Scanned.fs h2
  simp at this
end Frm

namespace Wi
open Bts
theorem dec_bad {b : Bytes} (h : (dec b).2.2 ≠ 0) : dec b = (0, zeroI, (dec b).2.2) := by
  unfold dec at h ⊢
  split
  · rfl
  split
  · rfl
  split
  · rfl
  split
  · rename_i h1 h2 h3 h4
    rw [if_neg h1, if_neg h2, if_neg h3, if_pos h4] at h
    exact absurd rfl h
  · rfl
theorem dec_ok {b : Bytes} (h : (dec b).2.2 = 0) : (1 ≤ (dec b).1 ∧ (dec b).1 ≤ 7) ∧ insOk (dec b).2.1 ∧ (pack (inBits (dec b).2.1)).length ≤ 65536 ∧ b = Frm.enc (dec b).1 (pack (inBits (dec b).2.1)) := by
  unfold dec at h ⊢
  split at h
  · rename_i h1; exact absurd h h1
  split at h
  · cases h
  split at h
  · cases h
  split at h
  · rename_i h1 h2 h3 h4
    rw [if_neg h1, if_neg h2, if_neg h3, if_pos h4]
    simp only
    obtain ⟨a1, a2⟩ := read_ok h4
    obtain ⟨f1, f2, f3, f4, f5, f6⟩ := Frm.dec_fine b (by simpa using h1)
    have hn : (Frm.dec b).n = b.length := by simpa using h2
    rw [← a2]
    refine ⟨by omega, a1, f3, ?_⟩
    rw [f6, hn, List.take_length]
  · rename_i h1 h2 h3 h4; exact absurd h h4
theorem dec_enc {k : Int} {x : Ins} (hk : 1 ≤ k ∧ k ≤ 7) (hx : insOk x) (hp : (pack (inBits x)).length ≤ 65536) : dec (Frm.enc k (pack (inBits x))) = (k, x, 0) := by
  have h := Frm.dec_enc k (pack (inBits x)) [] (by omega) hp
  rw [List.append_nil] at h
  unfold dec
  rw [h]
  simp only [ne_eq, not_true_eq_false, if_false]
  rw [if_neg (by rw [Frm.enc_len]; simp), if_neg (by omega), read_enc hx]
  rfl
theorem dec_cut {k : Int} {d : Bytes} (hk : 1 ≤ k ∧ k ≤ 7) (hp : d.length ≤ 65536) {m : Nat} (hm : m < (Frm.enc k d).length) : dec ((Frm.enc k d).take m) = (0, zeroI, 10) := by
  rw [Frm.enc_len] at hm
  unfold dec
  rw [Frm.dec_cut_off k d (by omega) hp m hm]
  rfl
theorem dec_turn {k : Int} {d : Bytes} (hk : 1 ≤ k ∧ k ≤ 7) (hp : d.length ≤ 65536) {p : Nat} (hm : p < (Frm.enc k d).length) {x : BitVec 8} (hx : (Frm.enc k d)[p]? ≠ some x) : (dec ((Frm.enc k d).set p x)).2.2 ≠ 0 := by
  rw [Frm.enc_len] at hm
  have h := Frm.dec_one_turned k d (by omega) hp p hm x hx
  unfold dec
  rw [if_pos h]
  exact h
theorem encErr_ok {k : Int} {x : Ins} (h : encErr k x = 0) (hl : x.1.length = 9) : (1 ≤ k ∧ k ≤ 7) ∧ insOk x ∧ (pack (inBits x)).length ≤ 65536 ∧ encOut k x = Frm.enc k (pack (inBits x)) := by
  have ho : encOut k x = Frm.enc k (pack (inBits x)) := by unfold encOut; rw [if_pos h]
  unfold encErr at h
  split at h
  · cases h
  split at h
  · rename_i h1 h2
    split at h
    · cases h
    · rename_i h3; exact ⟨by omega, inErr_ok h2 hl, by omega, ho⟩
  · rename_i h1 h2; exact absurd h h2
theorem encErr_of {k : Int} {x : Ins} (hk : 1 ≤ k ∧ k ≤ 7) (hx : insOk x) (hp : (pack (inBits x)).length ≤ 65536) : encErr k x = 0 ∧ encOut k x = Frm.enc k (pack (inBits x)) := by
  have e : encErr k x = 0 := by
    unfold encErr
    rw [if_neg (by omega), if_pos (inErr_of hx).1, if_neg (by omega)]
  exact ⟨e, by unfold encOut; rw [if_pos e]⟩
theorem head_enc : encErr 7 ([0, 0, 0, 0, 0, 0, 0, 0, 0], [], []) = 0 ∧ (encOut 7 ([0, 0, 0, 0, 0, 0, 0, 0, 0], [], [])).length = 14 ∧ (encOut 7 ([0, 0, 0, 0, 0, 0, 0, 0, 0], [], []))[0]? = some 7#8 ∧ (encOut 7 ([0, 0, 0, 0, 0, 0, 0, 0, 0], [], []))[12]? = some 255#8 ∧ (encOut 7 ([0, 0, 0, 0, 0, 0, 0, 0, 0], [], []))[13]? = some 224#8 := by
  have hx : insOk ([0, 0, 0, 0, 0, 0, 0, 0, 0], [], []) := ⟨rfl, by decide, by decide, by decide⟩
  have hp : pack (inBits ([0, 0, 0, 0, 0, 0, 0, 0, 0], [], [])) = [255#8, 224#8] := by decide +kernel
  obtain ⟨h1, h2⟩ := encErr_of (k := 7) (by decide) hx (by rw [hp]; decide)
  rw [h2, hp]
  exact ⟨h1, rfl, by decide +kernel, rfl, rfl⟩
end Wi
end Go.Proofs.Ytdpopdgeipgheaa

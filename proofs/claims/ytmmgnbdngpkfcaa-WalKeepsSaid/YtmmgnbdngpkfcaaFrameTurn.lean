
/-
  A frame that has been turned within 32 bits is none: the plain law.
-/
import Derived.Test.YtmmgnbdngpkfcaaFrameScan
import Derived.Test.YtmmgnbdngpkfcaaCrcBurst
namespace Go.Proofs.Ytmmgnbdngpkfcaa.Crc
set_option linter.unusedVariables false

/-- bytes that differ in at most four places side by side leave unlike remainders -/
theorem run_near {l m : List (BitVec 8)} (hl : l.length = m.length) (q : Nat) (h : ∀ i, (i < q ∨ q + 4 ≤ i) → l[i]? = m[i]?) (x : BitVec 32) (hr : run x l = run x m) : l = m := by
  have hbit : ∀ p, (p < 8 * q ∨ 8 * q + 32 ≤ p) → bitAt l p = bitAt m p := by
    intro p hp
    unfold bitAt
    simp only [List.getD]
    rw [h (p / 8) (by omega)]
  have hz : run 0#32 (l.zipWith (· ^^^ ·) m) = 0#32 := by
    have := run_xor l m x x hl
    rw [hr, BitVec.xor_self, BitVec.xor_self] at this
    exact this
  rw [run_bits] at hz
  have hlen : (l.zipWith (· ^^^ ·) m).length = l.length := by simp; omega
  rw [hlen] at hz
  have hall : ∀ p, p < 8 * l.length → bitAt (l.zipWith (· ^^^ ·) m) p = false := by
    by_cases hq : 8 * q ≤ 8 * l.length
    · by_cases hN : 8 * q + 32 ≤ 8 * l.length
      · exact window (at_ := 8 * q) (m := 32) (Nat.le_refl _) hN (fun p hp => by rw [xor_bits hl, hbit p (.inl hp), Bool.xor_self]) (fun p hp hp2 => by rw [xor_bits hl, hbit p (.inr hp), Bool.xor_self]) hz
      · exact window (at_ := 8 * q) (m := 8 * l.length - 8 * q) (by omega) (by omega) (fun p hp => by rw [xor_bits hl, hbit p (.inl hp), Bool.xor_self]) (fun p hp hp2 => by omega) hz
    · intro p hp
      rw [xor_bits hl, hbit p (.inl (by omega)), Bool.xor_self]
  exact bits_ext hl fun p hp => by
    have := hall p hp
    rw [xor_bits hl] at this
    simpa using this
theorem more_near {l m : List (BitVec 8)} (hl : l.length = m.length) (q : Nat) (h : ∀ i, (i < q ∨ q + 4 ≤ i) → l[i]? = m[i]?) (s : BitVec 32) (hr : more s l = more s m) : l = m := by
  refine run_near hl q h (~~~s) ?_
  have := congrArg (fun x => ~~~x) hr
  simpa [more] using this
end Go.Proofs.Ytmmgnbdngpkfcaa.Crc

namespace Go.Proofs.Ytmmgnbdngpkfcaa.Frm
set_option linter.unusedVariables false

theorem be_inj {x y : BitVec 32} (h : be x = be y) : x = y := by
  rw [← be_G' x, ← be_G' y]
  simp only [be, List.cons.injEq, and_true] at h
  obtain ⟨h1, h2, h3, h4⟩ := h
  rw [h1, h2, h3, h4]

/-- a frame's bytes with one part turned, or its content within 32 bits: no frame -/
theorem dec_turned (k : Int) (d : Bytes) (A B C D r : Bytes) (hk : 0 ≤ k ∧ k ≤ 255) (hd' : d.length ≤ 65536)
    (hA : A.length = 4) (hB : B.length = 4) (hC : C.length = 4) (hD : D.length = d.length) (hne : A ++ B ++ C ++ D ≠ enc k d)
    (hcase : (B = be (Crc.sum (enc1 k d.length)) ∧ C = be (Crc.more (Crc.sum (enc2 k d.length)) d) ∧ D = d) ∨ (A = enc1 k d.length ∧ C = be (Crc.more (Crc.sum (enc2 k d.length)) d) ∧ D = d) ∨ (A = enc1 k d.length ∧ B = be (Crc.sum (enc1 k d.length)) ∧ D = d) ∨
      (A = enc1 k d.length ∧ B = be (Crc.sum (enc1 k d.length)) ∧ C = be (Crc.more (Crc.sum (enc2 k d.length)) d) ∧ ∃ q, ∀ i, (i < q ∨ q + 4 ≤ i) → D[i]? = d[i]?)) :
    (dec (A ++ B ++ C ++ D ++ r)).err ≠ 0 := by
  obtain ⟨a0, a1, a2, a3, rfl⟩ : ∃ a0 a1 a2 a3, A = [a0, a1, a2, a3] := by
    match A, hA with
    | [a0, a1, a2, a3], _ => exact ⟨_, _, _, _, rfl⟩
  obtain ⟨b0, b1, b2, b3, rfl⟩ : ∃ a0 a1 a2 a3, B = [a0, a1, a2, a3] := by
    match B, hB with
    | [a0, a1, a2, a3], _ => exact ⟨_, _, _, _, rfl⟩
  obtain ⟨c0, c1, c2, c3, rfl⟩ : ∃ a0 a1 a2 a3, C = [a0, a1, a2, a3] := by
    match C, hC with
    | [a0, a1, a2, a3], _ => exact ⟨_, _, _, _, rfl⟩
  intro h0
  obtain ⟨T, hT⟩ : ∃ T, T = [a0, a1, a2, a3] ++ [b0, b1, b2, b3] ++ [c0, c1, c2, c3] ++ D ++ r := ⟨_, rfl⟩
  rw [← hT] at h0
  have hlen : T.length = 12 + d.length + r.length := by rw [hT]; simp; omega
  have h8 : ¬ T.length < 8 := by omega
  have t4 : T.take 4 = [a0, a1, a2, a3] := by rw [hT]; rfl
  have t8 : T.take 8 = [a0, a1, a2, a3] ++ [b0, b1, b2, b3] := by rw [hT]; rfl
  have hsA : sumA T = true := by
    cases h : sumA T
    · rw [dec_sumA h8 h] at h0; exact absurd h0 (by decide)
    · rfl
  have eA : be (Crc.sum [a0, a1, a2, a3]) = [b0, b1, b2, b3] := by
    have := sumA_eq T h8 hsA
    rw [t4] at this
    rw [this, hT]; rfl
  have step : [a0, a1, a2, a3] = enc1 k d.length → [b0, b1, b2, b3] = be (Crc.sum (enc1 k d.length)) → be (Crc.more (Crc.sum (enc2 k d.length)) D) = [c0, c1, c2, c3] := by
    intro hA1 hB1
    have e8 : T.take 8 = enc2 k d.length := by rw [t8, hA1, hB1]; rfl
    have hg : getBE T = hd k d.length := by
      have e : getBE T = getBE ([a0, a1, a2, a3] ++ []) := by rw [hT]; rfl
      rw [e, hA1]; exact getBE_be _ _
    obtain ⟨j, rfl⟩ := Int.eq_ofNat_of_zero_le hk.1
    have hh := hd_nat j d.length (by omega) (by omega)
    have hn : len24 T = d.length := by
      unfold len24
      rw [hg, BitVec.toNat_and]
      have : (16777215#32 : BitVec 32).toNat = 2 ^ 24 - 1 := by decide
      rw [this, Nat.and_two_pow_sub_one_eq_mod, hh]; omega
    have hb : body T = D := by
      unfold body
      rw [hn, hT]
      show (D ++ r).take d.length = D
      rw [← hD]; simp
    have hsB : sumB T = true := by
      cases h : sumB T
      · rw [dec_sumB h8 hsA (by rw [hn]; omega) (by rw [hn]; omega) h] at h0; exact absurd h0 (by decide)
      · rfl
    unfold sumB at hsB
    rw [e8, hb] at hsB
    have := eq_of_beq hsB
    rw [← this, hT]; rfl
  have hfull : enc1 k d.length ++ be (Crc.sum (enc1 k d.length)) ++ be (Crc.more (Crc.sum (enc2 k d.length)) d) ++ d = enc k d := rfl
  rcases hcase with ⟨h1, h2, h3⟩ | ⟨h1, h2, h3⟩ | ⟨h1, h2, h3⟩ | ⟨h1, h2, h3, q, hq⟩
  · have e1 : Crc.sum [a0, a1, a2, a3] = Crc.sum (enc1 k d.length) := be_inj (by rw [eA, h1])
    have e2 : [a0, a1, a2, a3] = enc1 k d.length := Crc.more_near (by rw [enc1_len]; rfl) 0 (fun i hi => by
      rcases hi with hi | hi
      · omega
      · rw [List.getElem?_eq_none (by simp; omega), List.getElem?_eq_none (by rw [enc1_len]; omega)]) 0#32 e1
    exact hne (by rw [e2, h1, h2, h3]; exact hfull)
  · exact hne (by rw [h1, h2, h3, ← eA, h1]; exact hfull)
  · have := step h1 h2
    rw [h3] at this
    exact hne (by rw [h1, h2, h3, ← this]; exact hfull)
  · have e1 := step h1 h2
    rw [h3] at e1
    have e2 := be_inj e1
    have e3 : D = d := Crc.more_near hD q hq _ e2
    exact hne (by rw [h1, h2, h3, e3]; exact hfull)

/-- where the k-th frame begins -/
def off (fs : List (Int × Bytes)) (k : Nat) : Nat := (encs (fs.take k)).length
theorem off_zero (fs : List (Int × Bytes)) : off fs 0 = 0 := by simp [off, encs]
theorem off_succ {fs : List (Int × Bytes)} {k : Nat} (hk : k < fs.length) : off fs (k + 1) = off fs k + (12 + fs[k].2.length) := by
  unfold off
  rw [List.take_add_one, List.getElem?_eq_getElem hk, Option.toList_some, encs_app, encs_cons, encs_nil, List.append_nil, List.length_append, enc_len]
theorem off_all (fs : List (Int × Bytes)) : off fs fs.length = (encs fs).length := by simp [off]
theorem off_past {fs : List (Int × Bytes)} {k : Nat} (hk : fs.length ≤ k) : off fs k = (encs fs).length := by simp [off, List.take_of_length_le hk]
theorem encs_split {fs : List (Int × Bytes)} {k : Nat} (hk : k < fs.length) : encs fs = encs (fs.take k) ++ (enc fs[k].1 fs[k].2 ++ encs (fs.drop (k + 1))) := by
  rw [← encs_cons, ← encs_app, ← List.drop_eq_getElem_cons hk, List.take_append_drop]

/-- a part of bytes that stay: the same part -/
theorem part_eq {l m : Bytes} {a n : Nat} (h : ∀ i, a ≤ i → i < a + n → l[i]? = m[i]?) : (l.drop a).take n = (m.drop a).take n := by
  apply List.ext_getElem?
  intro i
  rw [List.getElem?_take, List.getElem?_take]
  split
  · rw [List.getElem?_drop, List.getElem?_drop, h _ (by omega) (by omega)]
  · rfl

theorem scan_turned (fs : List (Int × Bytes)) (hf : ∀ x ∈ fs, Fine x) (k : Nat) (hk : k < fs.length) (c : Bytes) (hlen : c.length = (encs fs).length) (at_ : Nat) (h1 : off fs k ≤ at_) (h2 : at_ < off fs (k + 1))
    (hag : ∀ i, (i < at_ ∨ at_ + 4 ≤ i ∨ off fs (k + 1) ≤ i) → c[i]? = (encs fs)[i]?) (hs : at_ < off fs k + 12 → ∀ i, i ≠ at_ → c[i]? = (encs fs)[i]?) (hne : c ≠ encs fs) :
    ∃ er, er ≠ 0 ∧ Frm.scan c = ⟨fs.take k, off fs k, er⟩ := by
  have hsp := encs_split hk
  have hoff := off_succ hk
  have hfk := hf fs[k] (List.getElem_mem hk)
  obtain ⟨x, hx⟩ : ∃ x, x = fs[k] := ⟨_, rfl⟩
  rw [← hx] at hsp hoff hfk
  obtain ⟨kd, d⟩ := x
  simp only at hsp hoff
  obtain ⟨⟨hk1, hk2⟩, hk3⟩ := hfk
  simp only at hk1 hk2 hk3
  obtain ⟨o, ho⟩ : ∃ o, o = off fs k := ⟨_, rfl⟩
  rw [← ho] at h1 hoff hs ⊢
  have hol : (encs (fs.take k)).length = o := by rw [ho]; rfl
  obtain ⟨b, hb⟩ : ∃ b, b = encs fs := ⟨_, rfl⟩
  rw [← hb] at hsp hag hs hne hlen
  have hbl : b.length = o + (12 + d.length) + (encs (fs.drop (k + 1))).length := by rw [hsp]; simp [enc_len, hol]; omega
  have hel : (enc kd d).length = 12 + d.length := enc_len kd d
  -- the parts of c
  have cpre : c.take o = encs (fs.take k) := by
    have := part_eq (l := c) (m := b) (a := 0) (n := o) (fun i _ hi => hag i (.inl (by omega)))
    simp only [List.drop_zero] at this
    rw [this, hsp, List.take_append_of_le_length (by omega), List.take_of_length_le (by omega)]
  have crest : c.drop (o + (12 + d.length)) = encs (fs.drop (k + 1)) := by
    have e : b.drop (o + (12 + d.length)) = encs (fs.drop (k + 1)) := by
      rw [hsp, List.drop_append, hol, List.drop_of_length_le (by omega), List.nil_append, List.drop_append, hel, List.drop_of_length_le (by omega)]
      simp
    rw [← e]
    apply List.ext_getElem?
    intro i
    rw [List.getElem?_drop, List.getElem?_drop, hag _ (.inr (.inr (by omega)))]
  have bpart : ∀ a n, a + n ≤ 12 + d.length → (b.drop (o + a)).take n = ((enc kd d).drop a).take n := by
    intro a n han
    rw [hsp, List.drop_append, hol, List.drop_of_length_le (by omega), List.nil_append, List.drop_append, show o + a - o = a by omega, List.take_append_of_le_length (by simp [hel]; omega)]
  obtain ⟨A, hA⟩ : ∃ A, A = (c.drop o).take 4 := ⟨_, rfl⟩
  obtain ⟨B, hB⟩ : ∃ A, A = (c.drop (o + 4)).take 4 := ⟨_, rfl⟩
  obtain ⟨C, hC⟩ : ∃ A, A = (c.drop (o + 8)).take 4 := ⟨_, rfl⟩
  obtain ⟨D, hD⟩ : ∃ A, A = (c.drop (o + 12)).take d.length := ⟨_, rfl⟩
  have eA : ((enc kd d).drop 0).take 4 = enc1 kd d.length := rfl
  have eB : ((enc kd d).drop 4).take 4 = be (Crc.sum (enc1 kd d.length)) := rfl
  have eC : ((enc kd d).drop 8).take 4 = be (Crc.more (Crc.sum (enc2 kd d.length)) d) := rfl
  have eD : ((enc kd d).drop 12).take d.length = d := by show d.take d.length = d; simp
  have cparts : c.drop o = A ++ B ++ C ++ D ++ encs (fs.drop (k + 1)) := by
    have e := take_parts (c.drop o) d.length (by simp; omega)
    simp only [List.drop_drop] at e
    rw [← List.take_append_drop (12 + d.length) (c.drop o), e, List.drop_drop, crest, hA, hB, hC, hD]
  have call : c = encs (fs.take k) ++ (A ++ B ++ C ++ D ++ encs (fs.drop (k + 1))) := by rw [← cpre, ← cparts, List.take_append_drop]
  have hne2 : A ++ B ++ C ++ D ≠ enc kd d := by
    intro e
    apply hne
    rw [call, hsp, e]
  have kA : (∀ i, o ≤ i → i < o + 4 → c[i]? = b[i]?) → A = enc1 kd d.length := fun h => by
    rw [hA, part_eq h]
    have := bpart 0 4 (by omega)
    simp only [Nat.add_zero] at this
    rw [this, eA]
  have kB : (∀ i, o + 4 ≤ i → i < o + 4 + 4 → c[i]? = b[i]?) → B = be (Crc.sum (enc1 kd d.length)) := fun h => by rw [hB, part_eq h, bpart 4 4 (by omega), eB]
  have kC : (∀ i, o + 8 ≤ i → i < o + 8 + 4 → c[i]? = b[i]?) → C = be (Crc.more (Crc.sum (enc2 kd d.length)) d) := fun h => by rw [hC, part_eq h, bpart 8 4 (by omega), eC]
  have kD : (∀ i, o + 12 ≤ i → i < o + 12 + d.length → c[i]? = b[i]?) → D = d := fun h => by rw [hD, part_eq h, bpart 12 d.length (by omega), eD]
  have hcase : (B = be (Crc.sum (enc1 kd d.length)) ∧ C = be (Crc.more (Crc.sum (enc2 kd d.length)) d) ∧ D = d) ∨ (A = enc1 kd d.length ∧ C = be (Crc.more (Crc.sum (enc2 kd d.length)) d) ∧ D = d) ∨ (A = enc1 kd d.length ∧ B = be (Crc.sum (enc1 kd d.length)) ∧ D = d) ∨
      (A = enc1 kd d.length ∧ B = be (Crc.sum (enc1 kd d.length)) ∧ C = be (Crc.more (Crc.sum (enc2 kd d.length)) d) ∧ ∃ q, ∀ i, (i < q ∨ q + 4 ≤ i) → D[i]? = d[i]?) := by
    by_cases q1 : at_ < o + 12
    · have hs' := hs q1
      by_cases q2 : at_ < o + 4
      · exact .inl ⟨kB fun i _ _ => hs' i (by omega), kC fun i _ _ => hs' i (by omega), kD fun i _ _ => hs' i (by omega)⟩
      · by_cases q3 : at_ < o + 8
        · exact .inr (.inl ⟨kA fun i _ _ => hs' i (by omega), kC fun i _ _ => hs' i (by omega), kD fun i _ _ => hs' i (by omega)⟩)
        · exact .inr (.inr (.inl ⟨kA fun i _ _ => hs' i (by omega), kB fun i _ _ => hs' i (by omega), kD fun i _ _ => hs' i (by omega)⟩))
    · refine .inr (.inr (.inr ⟨kA fun i _ _ => hag i (by omega), kB fun i _ _ => hag i (by omega), kC fun i _ _ => hag i (by omega), at_ - (o + 12), fun i hi => ?_⟩))
      have e := bpart 12 d.length (by omega)
      rw [eD] at e
      have e2 : d[i]? = ((b.drop (o + 12)).take d.length)[i]? := by rw [e]
      rw [hD, e2, List.getElem?_take, List.getElem?_take, List.getElem?_drop, List.getElem?_drop]
      split
      · rw [hag _ (by omega)]
      · rfl
  have hdec := dec_turned kd d A B C D (encs (fs.drop (k + 1))) ⟨hk1, hk2⟩ hk3 (by rw [hA]; simp; omega) (by rw [hB]; simp; omega) (by rw [hC]; simp; omega) (by rw [hD]; simp; omega) hne2 hcase
  refine ⟨_, hdec, ?_⟩
  rw [call, scan_encs _ _ (fun y hy => hf y (List.mem_of_mem_take hy)), scan_bad (by simp [hA, hlen, hbl]; omega) hdec, hol]
  simp
end Go.Proofs.Ytmmgnbdngpkfcaa.Frm

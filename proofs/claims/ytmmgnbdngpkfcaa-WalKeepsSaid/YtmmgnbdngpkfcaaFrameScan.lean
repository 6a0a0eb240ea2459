
/-
  Frames one behind the other, as lists of bytes.
-/
import Derived.Test.YtmmgnbdngpkfcaaFramePlain
namespace Go.Proofs.Ytmmgnbdngpkfcaa.Frm
set_option linter.unusedVariables false

structure Scanned where
  fs : List (Int × Bytes)
  upto : Nat
  err : Int
def scanF : Nat → Bytes → Scanned
  | 0, _ => ⟨[], 0, 0⟩
  | f + 1, l => if l.length = 0 then ⟨[], 0, 0⟩ else if (dec l).err = 0 then ⟨((dec l).kind, (dec l).data) :: (scanF f (l.drop (dec l).n)).fs, (dec l).n + (scanF f (l.drop (dec l).n)).upto, (scanF f (l.drop (dec l).n)).err⟩ else ⟨[], 0, (dec l).err⟩
def scan (l : Bytes) : Scanned := scanF l.length l

/-- what a frame that is there says -/
theorem dec_fine (l : Bytes) (h : (dec l).err = 0) : 0 ≤ (dec l).kind ∧ (dec l).kind ≤ 255 ∧ (dec l).data.length ≤ 65536 ∧ (dec l).n = 12 + (dec l).data.length ∧ (dec l).n ≤ l.length ∧ enc (dec l).kind (dec l).data = l.take (dec l).n := by
  by_cases h8 : l.length < 8
  · rw [dec_short h8] at h; simp [bad] at h
  cases hA : sumA l
  · rw [dec_sumA h8 hA] at h; simp [bad] at h
  by_cases hl : 65536 < len24 l
  · rw [dec_long h8 hA hl] at h; simp [bad] at h
  by_cases hc : l.length < 12 + len24 l
  · rw [dec_cut h8 hA hl hc] at h; simp [bad] at h
  cases hB : sumB l
  · rw [dec_sumB h8 hA hl hc hB] at h; simp [bad] at h
  have hbl : (body l).length = len24 l := by unfold body; simp; omega
  have ht := text_same l h8 hA (by omega)
  rw [hB] at ht
  rw [dec_ok h8 hA hl hc hB]
  simp only
  rw [kind_eq]
  have h0 := bv_nonneg (ith l 0)
  have h1 := bv8_lt (ith l 0)
  exact ⟨h0, by omega, by omega, by omega, by omega, by simpa using ht⟩

theorem scanF_eq : ∀ (f : Nat) (l : Bytes), l.length ≤ f → scanF f l = scan l := by
  intro f
  induction f using Nat.strongRecOn with
  | _ f ih =>
    intro l hl
    unfold scan
    cases f with
    | zero =>
      have : l.length = 0 := by omega
      rw [this]
    | succ f =>
      by_cases h0 : l.length = 0
      · rw [h0]; simp [scanF, h0]
      · obtain ⟨m, hm⟩ : ∃ m, l.length = m + 1 := ⟨l.length - 1, by omega⟩
        rw [hm]
        simp only [scanF, h0, if_false]
        by_cases he : (dec l).err = 0
        · have hf := dec_fine l he
          have hd : (l.drop (dec l).n).length ≤ m := by simp; omega
          rw [if_pos he, if_pos he, ih f (by omega) _ (by omega)]
          by_cases hmf : m = f
          · subst hmf; rw [ih m (by omega) _ hd]
          · rw [ih m (by omega) _ hd]
        · rw [if_neg he, if_neg he]

theorem scan_nil : scan [] = ⟨[], 0, 0⟩ := rfl
theorem scan_bad {l : Bytes} (h : 0 < l.length) (he : (dec l).err ≠ 0) : scan l = ⟨[], 0, (dec l).err⟩ := by
  unfold scan
  obtain ⟨m, hm⟩ : ∃ m, l.length = m + 1 := ⟨l.length - 1, by omega⟩
  rw [hm]; simp only [scanF]; rw [if_neg (by omega), if_neg he]
theorem scan_ok {l : Bytes} (h : 0 < l.length) (he : (dec l).err = 0) : scan l = ⟨((dec l).kind, (dec l).data) :: (scan (l.drop (dec l).n)).fs, (dec l).n + (scan (l.drop (dec l).n)).upto, (scan (l.drop (dec l).n)).err⟩ := by
  have hf := dec_fine l he
  conv => lhs; unfold scan
  obtain ⟨m, hm⟩ : ∃ m, l.length = m + 1 := ⟨l.length - 1, by omega⟩
  rw [hm]; simp only [scanF]; rw [if_neg (by omega), if_pos he, scanF_eq m _ (by simp; omega)]

/-- frames' bytes -/
def encs (fs : List (Int × Bytes)) : Bytes := (fs.map fun x => enc x.1 x.2).flatten
theorem encs_nil : encs [] = [] := rfl
theorem encs_cons (x : Int × Bytes) (fs : List (Int × Bytes)) : encs (x :: fs) = enc x.1 x.2 ++ encs fs := by simp [encs]
theorem encs_app (a b : List (Int × Bytes)) : encs (a ++ b) = encs a ++ encs b := by simp [encs]
/-- a frame that can be written -/
def Fine (x : Int × Bytes) : Prop := (0 ≤ x.1 ∧ x.1 ≤ 255) ∧ x.2.length ≤ 65536

theorem scan_tells : ∀ (n : Nat) (l : Bytes), l.length ≤ n → encs (scan l).fs = l.take (scan l).upto ∧ (scan l).upto ≤ l.length ∧ (∀ x ∈ (scan l).fs, Fine x) ∧ 12 * (scan l).fs.length ≤ (scan l).upto := by
  intro n
  induction n with
  | zero =>
    intro l hl
    have : l = [] := List.eq_nil_of_length_eq_zero (by omega)
    subst this
    rw [scan_nil]; simp [encs]
  | succ n ih =>
    intro l hl
    by_cases h0 : l.length = 0
    · have : l = [] := List.eq_nil_of_length_eq_zero h0
      subst this
      rw [scan_nil]; simp [encs]
    by_cases he : (dec l).err = 0
    · have hf := dec_fine l he
      obtain ⟨i1, i2, i3, i4⟩ := ih (l.drop (dec l).n) (by simp; omega)
      rw [scan_ok (by omega) he]
      simp only [List.length_drop] at i2 ⊢
      refine ⟨?_, by omega, ?_, by simp only [List.length_cons]; omega⟩
      · rw [encs_cons, i1]
        simp only
        rw [hf.2.2.2.2.2, List.take_add]
      · intro x hx
        rcases List.mem_cons.1 hx with rfl | hx
        · exact ⟨⟨hf.1, hf.2.1⟩, hf.2.2.1⟩
        · exact i3 x hx
    · rw [scan_bad (by omega) he]; simp [encs]

theorem scan_enc (x : Int × Bytes) (r : Bytes) (hx : Fine x) : scan (enc x.1 x.2 ++ r) = ⟨x :: (scan r).fs, 12 + x.2.length + (scan r).upto, (scan r).err⟩ := by
  have hd := dec_enc x.1 x.2 r hx.1 hx.2
  have hl : (enc x.1 x.2).length = 12 + x.2.length := enc_len _ _
  rw [scan_ok (by simp; omega) (by rw [hd]), hd]
  simp only
  rw [List.drop_append_of_le_length (by omega), List.drop_of_length_le (by omega), List.nil_append]

theorem scan_encs (fs : List (Int × Bytes)) (r : Bytes) (hx : ∀ x ∈ fs, Fine x) : scan (encs fs ++ r) = ⟨fs ++ (scan r).fs, (encs fs).length + (scan r).upto, (scan r).err⟩ := by
  induction fs with
  | nil => simp [encs]
  | cons x fs ih =>
    rw [encs_cons, List.append_assoc, scan_enc x _ (hx x (by simp)), ih fun y hy => hx y (by simp [hy])]
    simp only [List.cons_append, List.length_append, enc_len, Scanned.mk.injEq, true_and, and_true]
    omega

/-- the first frame's fault that has one -/
def fault (x : Int × Bytes) : Int := if x.1 < 0 ∨ 255 < x.1 then 14 else if 65536 < x.2.length then 3 else 0
def faults : List (Int × Bytes) → Int
  | [] => 0
  | x :: fs => if fault x = 0 then faults fs else fault x
theorem fault_fine {x : Int × Bytes} : fault x = 0 ↔ Fine x := by
  unfold fault Fine
  split
  · simp; omega
  · split
    · simp; omega
    · simp; omega
theorem faults_fine {fs : List (Int × Bytes)} : faults fs = 0 ↔ ∀ x ∈ fs, Fine x := by
  induction fs with
  | nil => simp [faults]
  | cons x fs ih =>
    simp only [faults, List.mem_cons, forall_eq_or_imp]
    by_cases h : fault x = 0
    · rw [if_pos h, ih]; simp [fault_fine.1 h]
    · rw [if_neg h]; simp [h, mt fault_fine.2 h]
theorem faults_step {fs : List (Int × Bytes)} {k : Nat} (hk : k < fs.length) : faults (fs.drop k) = if fault fs[k] = 0 then faults (fs.drop (k + 1)) else fault fs[k] := by
  rw [List.drop_eq_getElem_cons hk]; rfl

/-- the way of the loops: so many frames, and where one is -/
theorem scan_step {l : Bytes} {out : List (Int × Bytes)} {k : Nat} (hk : k < l.length) (h : scan l = ⟨out ++ (scan (l.drop k)).fs, k + (scan (l.drop k)).upto, (scan (l.drop k)).err⟩) (he : (dec (l.drop k)).err = 0) :
    scan l = ⟨(out ++ [((dec (l.drop k)).kind, (dec (l.drop k)).data)]) ++ (scan (l.drop (k + (dec (l.drop k)).n))).fs, k + (dec (l.drop k)).n + (scan (l.drop (k + (dec (l.drop k)).n))).upto, (scan (l.drop (k + (dec (l.drop k)).n))).err⟩ := by
  rw [h, scan_ok (l := l.drop k) (by simp; omega) he, List.drop_drop]
  simp only [List.append_assoc, List.cons_append, List.nil_append, Scanned.mk.injEq, true_and, and_true]
  omega
end Go.Proofs.Ytmmgnbdngpkfcaa.Frm

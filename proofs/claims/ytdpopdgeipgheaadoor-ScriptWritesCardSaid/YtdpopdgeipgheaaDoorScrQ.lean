
/-
  The document's own reader of setups and scripts: plain laws of its faults; its reader of whole numbers.
-/
import Derived.Test.YtdpopdgeipgheaaDoorScrP
import Derived.Test.YtdpopdgeipgheaaDoorRefP
import Derived.Test.YtdpopdgeipgheaaDoorScrRE
namespace Go.Proofs.YtdpopdgeipgheaaDoor
open Go.RowKit
set_option linter.unusedVariables false

set_option maxHeartbeats 800000 in
theorem ref_ReadInt (a : Option Addr) (n c : Nat) (l : Bts.Bits) (w : World) (hr : RB w a n (Bts.asB l)) (hc : n ≤ c) (hl : n ≤ 100000) :
    Calls Tryd.prog 42 #[.slice a n c] w fun e w' => e = .returned (.tuple #[.int .i64 (Bts.unzig (Bts.numF l).1), .int .i64 (Bts.numF l).2.1, .int .i64 (Bts.numF l).2.2]) ∧ w = w' := by
  obtain ⟨x, hx⟩ : ∃ x, x = (Bts.numF l).1 := ⟨_, rfl⟩
  have Hx := Lib.hid hx
  rw [← hx]
  clear hx
  have hxl := x.isLt
  have e1 : ((x.toNat : Int) >>> 1) = ((x.toNat / 2 : Nat) : Int) := by rw [Int.shiftRight_eq_div_pow]; simp
  have hpar : (x &&& 1#64 == 1#64) = decide (x.toNat % 2 = 1) := by
    rw [Bool.eq_iff_iff, beq_iff_eq, decide_eq_true_eq]
    rw [← BitVec.toNat_inj, BitVec.toNat_and]
    have : (1#64 : BitVec 64).toNat = 2 ^ 1 - 1 := rfl
    rw [this, Nat.and_two_pow_sub_one_eq_mod]
  by_cases hm : x.toNat % 2 = 1
  · have hp' : (x &&& 1#64 == 1#64) = true := by rw [hpar]; simpa using hm
    have hu : wrap64 (wrap64 (-((x.toNat : Int) >>> 1)) - 1) = Bts.unzig x := by
      rw [e1]; unfold Bts.unzig wrap64; rw [if_pos hm]; omega
    have Hu := Lib.hid hu
    clear e1 hpar hm hu
    go_enter Tryd.func42, Tryd.ntmps42
    go_wp2_with fail
    refine (ref_ReadNum a n c l _ hr hc (by omega)).mono ?_
    rw [← Hx.out]
    rintro e w2 ⟨rfl, rfl⟩
    go_wp2_with fail
    refine bodyPost_ret (v := .tuple #[.int .i64 (Bts.unzig x), .int .i64 (Bts.numF l).2.1, .int .i64 (Bts.numF l).2.2]) (by simp [results, Tryd.results42, go_sem, Hu.out]) rfl ?_
    exact ⟨rfl, rfl⟩
  · have hp' : (x &&& 1#64 == 1#64) = false := by rw [hpar]; simpa using hm
    have hu : ((x.toNat : Int) >>> 1) = Bts.unzig x := by
      rw [e1]; unfold Bts.unzig; rw [if_neg hm]
    have Hu := Lib.hid hu
    clear e1 hpar hm hu
    go_enter Tryd.func42, Tryd.ntmps42
    go_wp2_with fail
    refine (ref_ReadNum a n c l _ hr hc (by omega)).mono ?_
    rw [← Hx.out]
    rintro e w2 ⟨rfl, rfl⟩
    go_wp2_with fail
    refine bodyPost_ret (v := .tuple #[.int .i64 (Bts.unzig x), .int .i64 (Bts.numF l).2.1, .int .i64 (Bts.numF l).2.2]) (by simp [results, Tryd.results42, go_sem, Hu.out]) rfl ?_
    exact ⟨rfl, rfl⟩


namespace Bts
theorem numF_int {l : Bits} {x : BitVec 64} {m : Nat} (h : numF l = (x, m, 0)) : intP l = .inl (unzig x, l.drop m) := by
  simp only [intP, mapP, (numF_ok h).2]
theorem numF_int_bad {l : Bits} {x : BitVec 64} {m : Nat} {e : Int} (h : numF l = (x, m, e)) (he : e ≠ 0) : intP l = .inr e := by
  simp only [intP, mapP, numF_bad h he]
end Bts
namespace Sc
open Bts
theorem dec_inr {l : Bits} {e : Int} (h : decP l = .inr e) : dec l = (zeroC, [], e) := by
  unfold dec allP
  rw [h]
theorem d1 {l : Bits} {j : Nat} {vs : List (BitVec 64)} {t : Bits} {e : Int} (h : manyP numP j l = .inl (vs, t)) (hj : j < 15) (he : numP t = .inr e) : dec l = (zeroC, [], e) := by
  apply dec_inr
  simp only [decP, confP, mapP, bindP, filtE, manyP_err (manyP_bad h he) hj]
theorem d2 {l : Bits} {vs : List (BitVec 64)} {t : Bits} (h : manyP numP 15 l = .inl (vs, t)) (ht : t.length < 64) : dec l = (zeroC, [], 10) := by
  apply dec_inr
  simp only [decP, confP, mapP, bindP, filtE, h, getP, if_pos ht]
theorem conf_all {l : Bits} {vs : List (BitVec 64)} {t : Bits} (h : manyP numP 15 l = .inl (vs, t)) (ht : ¬ t.length < 64) :
    confP l = if check (ofRaw (vs, val (t.take 64))) = 0 then .inl (ofRaw (vs, val (t.take 64)), t.drop 64) else .inr (check (ofRaw (vs, val (t.take 64)))) := by
  simp only [confP, mapP, bindP, filtE, h, getP, if_neg ht]
  by_cases hc : check (ofRaw (vs, val (t.take 64))) = 0
  · simp only [hc, if_true]
  · simp only [hc, if_false]
theorem d3 {l : Bits} {e : Int} (h : confP l = .inr e) : dec l = (zeroC, [], e) := by
  apply dec_inr
  simp only [decP, mapP, bindP, h]
theorem d4 {l u : Bits} {c : Conf} {e : Int} (h : confP l = .inl (c, u)) (he : numP u = .inr e) : dec l = (zeroC, [], e) := by
  apply dec_inr
  simp only [decP, mapP, bindP, h, filtP, he]
theorem d5 {l u v : Bits} {c : Conf} {n : BitVec 64} (h : confP l = .inl (c, u)) (hn : numP u = .inl (n, v)) (hx : 20000 < n.toNat) : dec l = (zeroC, [], 4) := by
  apply dec_inr
  simp only [decP, mapP, bindP, h, filtP, hn]
  rw [if_neg (by rw [decide_eq_true_eq]; omega)]
theorem d6 {l u v t : Bits} {c : Conf} {n : BitVec 64} {k : Nat} {ss : List Step} {e : Int} (h : confP l = .inl (c, u)) (hn : numP u = .inl (n, v)) (hx : n.toNat ≤ 20000) (hk : manyP stepP k v = .inl (ss, t)) (hkn : k < n.toNat) (he : stepP t = .inr e) : dec l = (zeroC, [], e) := by
  apply dec_inr
  simp only [decP, mapP, bindP, h, filtP, hn]
  rw [if_pos (by rw [decide_eq_true_eq]; omega)]
  simp only [manyP_err (manyP_bad hk he) hkn]
theorem d7 {l u v t : Bits} {c : Conf} {n : BitVec 64} {ss : List Step} (h : confP l = .inl (c, u)) (hn : numP u = .inl (n, v)) (hx : n.toNat ≤ 20000) (hk : manyP stepP n.toNat v = .inl (ss, t)) :
    dec l = if 7 < t.length ∨ t.any id = true then (zeroC, [], 12) else (c, ss, 0) := by
  have hd : decP l = .inl ((c, ss), t) := by
    simp only [decP, mapP, bindP, h, filtP, hn]
    rw [if_pos (by rw [decide_eq_true_eq]; omega)]
    simp only [hk]
  unfold dec allP
  rw [hd]
  by_cases hv : 7 < t.length ∨ t.any id = true
  · have h0 : endS (.inl t) = 12 := by simp only [endS]; rw [if_pos hv]
    simp only [h0]; rw [if_neg (by decide), if_pos hv]
  · have h0 : endS (.inl t) = 0 := by simp only [endS]; rw [if_neg hv]
    simp only [h0]; rw [if_neg hv]; rfl
/-- the three numbers of a step, by their places -/
def nth (l : List Int) (i : Nat) : Int := l.getD i 0
theorem nth_snoc (l : List Int) (y : Int) (i : Nat) : nth (l ++ [y]) i = if i = l.length then y else nth l i := by
  simp only [nth, List.getD]
  split
  · rename_i h; subst h; simp
  · rename_i h
    by_cases hl : i < l.length
    · rw [List.getElem?_append_left hl]
    · rw [List.getElem?_eq_none (by simp; omega), List.getElem?_eq_none (by omega)]
theorem step_eq (t : Bits) : stepP t = match manyP intP 3 t with
    | .inl (ys, u) => (match numP u with
      | .inl (n, v) => (match manyP intP n.toNat v with
        | .inl (xs, r) => .inl ((nth ys 0, nth ys 1, nth ys 2, xs), r)
        | .inr e => .inr e)
      | .inr e => .inr e)
    | .inr e => .inr e := by
  simp only [stepP, mapP, bindP, manyP]
  cases h1 : intP t with
  | inr e => rfl
  | inl a =>
    dsimp only
    cases h2 : intP a.2 with
    | inr e => rfl
    | inl b =>
      dsimp only
      cases h3 : intP b.2 with
      | inr e => rfl
      | inl c =>
        dsimp only
        cases h4 : numP c.2 with
        | inr e => rfl
        | inl n =>
          dsimp only
          cases h5 : manyP intP n.1.toNat n.2 with
          | inr e => rfl
          | inl x => rfl
theorem s1 {t u : Bits} {j : Nat} {ys : List Int} {e : Int} (h : manyP intP j t = .inl (ys, u)) (hj : j < 3) (he : intP u = .inr e) : stepP t = .inr e := by
  rw [step_eq, manyP_err (manyP_bad h he) hj]
theorem s2 {t u : Bits} {ys : List Int} {e : Int} (h : manyP intP 3 t = .inl (ys, u)) (he : numP u = .inr e) : stepP t = .inr e := by
  rw [step_eq, h]; simp only [he]
theorem s3 {t u v r : Bits} {ys xs : List Int} {n : BitVec 64} {q : Nat} {e : Int} (h : manyP intP 3 t = .inl (ys, u)) (hn : numP u = .inl (n, v)) (hq : manyP intP q v = .inl (xs, r)) (hqn : q < n.toNat) (he : intP r = .inr e) : stepP t = .inr e := by
  rw [step_eq, h]; simp only [hn, manyP_err (manyP_bad hq he) hqn]
theorem s4 {t u v r : Bits} {ys xs : List Int} {n : BitVec 64} (h : manyP intP 3 t = .inl (ys, u)) (hn : numP u = .inl (n, v)) (hq : manyP intP n.toNat v = .inl (xs, r)) : stepP t = .inl ((nth ys 0, nth ys 1, nth ys 2, xs), r) := by
  rw [step_eq, h]; simp only [hn, hq]
end Sc
theorem rconf_set (ys : List Int) (s : BitVec 64) (y : Int) (h : ys.length < 15) : (rcells (ys, s)).setIfInBounds ys.length (.int .i64 y) = rcells (ys ++ [y], s) := by
  obtain ⟨n, hn⟩ : ∃ n, n = ys.length := ⟨_, rfl⟩
  rw [← hn] at h ⊢
  have e : n = 0 ∨ n = 1 ∨ n = 2 ∨ n = 3 ∨ n = 4 ∨ n = 5 ∨ n = 6 ∨ n = 7 ∨ n = 8 ∨ n = 9 ∨ n = 10 ∨ n = 11 ∨ n = 12 ∨ n = 13 ∨ n = 14 := by omega
  unfold rcells
  simp only [Sc.cf_snoc, ← hn]
  rcases e with rfl | rfl | rfl | rfl | rfl | rfl | rfl | rfl | rfl | rfl | rfl | rfl | rfl | rfl | rfl <;> rfl
theorem rcells_num (c : Sc.Conf) (j : Nat) (h : j < 15) : (rcells c)[j]? = some (.int .i64 (Sc.cf c j)) := by
  refine cases15 (P := fun j => (rcells c)[j]? = some (.int .i64 (Sc.cf c j))) j h rfl rfl rfl rfl rfl rfl rfl rfl rfl rfl rfl rfl rfl rfl rfl
theorem rconf_seed (ys : List Int) (s t : BitVec 64) : (rcells (ys, s)).setIfInBounds 15 (.int .u64 (bv t)) = rcells (ys, t) := rfl
theorem rconf_one (c : Sc.Conf) : (rcells c).all (·.oneCell') = true := by
  simp [rcells, Value.oneCell']
theorem rconf_size (c : Sc.Conf) : (Tryd.prog.info? 39).map (·.size) = some (rcells c).size := by
  rw [show (rcells c).size = 16 by rfl]; kernel_rfl
/-- the three numbers of a step under way -/
def stp3 (ys : List Int) (v : Value) : Array Value := #[.int .i64 (Sc.nth ys 0), .int .i64 (Sc.nth ys 1), .int .i64 (Sc.nth ys 2), v]
theorem stp3_set (ys : List Int) (y : Int) (v : Value) (h : ys.length < 3) : (stp3 ys v).setIfInBounds ys.length (.int .i64 y) = stp3 (ys ++ [y]) v := by
  obtain ⟨n, hn⟩ : ∃ n, n = ys.length := ⟨_, rfl⟩
  rw [← hn] at h ⊢
  have e : n = 0 ∨ n = 1 ∨ n = 2 := by omega
  unfold stp3
  simp only [Sc.nth_snoc, ← hn]
  rcases e with rfl | rfl | rfl <;> rfl
theorem stp3_num (ys : List Int) (v : Value) (j : Nat) (h : j < 3) : (stp3 ys v)[j]? = some (.int .i64 (Sc.nth ys j)) := by
  have e : j = 0 ∨ j = 1 ∨ j = 2 := by omega
  rcases e with rfl | rfl | rfl <;> rfl

/-- what the document's decoder of scripts tells -/
def RefScrPost (B : Nat) (r : Sc.Conf × List Sc.Step × Int) (w : World) (e : Ending) (w' : World) : Prop :=
  ∃ aL cL, e = .returned (.tuple #[.agg (rcells r.1), .slice aL r.2.1.length cL, .int .i64 r.2.2]) ∧ r.2.1.length ≤ cL ∧ cL ≤ maxLen ∧ Sl EStp (fun b => B ≤ b) w' aL r.2.1 ∧ Below B w w'
theorem bits_rng {l : Bts.Bits} {x : BitVec 64} : Bts.i64 (Bts.unzig x) := Bts.unzig_range x
end Go.Proofs.YtdpopdgeipgheaaDoor

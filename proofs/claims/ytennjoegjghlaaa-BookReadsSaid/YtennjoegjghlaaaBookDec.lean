
/-
  Histories read from bits, in plain Lean.
-/
import Derived.Test.YtennjoegjghlaaaPars
namespace Go.Proofs.Ytennjoegjghlaaa.Bk
open Go.Proofs.Ytennjoegjghlaaa.Bts
set_option linter.unusedVariables false

def opP : Pr Op := mapP (fun yv : BitVec 64 × BitVec 64 => (((yv.1 >>> 4).toNat : Int) + 1, ((yv.1 &&& 15#64).toNat : Int), (yv.2.toNat : Int))) (filtP (fun yv => decide (yv.2.toNat < 1099511627776)) 11 (bindP (getP 5) (fun _ => numP)))
def evP : Pr Ev := mapP (fun xo : BitVec 64 × List Op => (((xo.1 >>> 8).toNat : Int) + 1, ((xo.1 >>> 4 &&& 15#64).toNat : Int) + 1, xo.2)) (bindP (filtP (fun x => decide ((x &&& 15#64).toNat ≤ 12)) 11 (getP 10)) (fun x => manyP opP (x &&& 15#64).toNat))
def decP : Pr (List Ev) := mapP (fun x => x.2) (bindP (filtP (fun n => decide (n.toNat ≤ 400)) 4 numP) (fun n => manyP evP n.toNat))
def dec (l : Bits) : List Ev × Int := match allP decP l with
  | .inl x => (x, 0)
  | .inr e => ([], e)

theorem and15 (x : BitVec 64) : (x &&& 15#64).toNat = x.toNat % 16 := by
  rw [BitVec.toNat_and]; exact Nat.and_two_pow_sub_one_eq_mod _ 4
theorem shr (x : BitVec 64) (k : Nat) : (x >>> k).toNat = x.toNat / 2 ^ k := by
  rw [BitVec.toNat_ushiftRight, Nat.shiftRight_eq_div_pow]
theorem ofInt_nat (i : Int) (h0 : 0 ≤ i) (h : i < 18446744073709551616) : ((BitVec.ofInt 64 i).toNat : Int) = i := by
  rw [BitVec.toNat_ofInt]; omega

theorem good_op : Coded opBits opP opOk := by
  have h := ((good_get 5 (by decide)).bind (fun _ _ => good_num)).filt (fun yv => decide (yv.2.toNat < 1099511627776)) 11 (by decide)
  refine h.map _ (fun o => (opNum o, BitVec.ofInt 64 o.2.2)) opBits opOk (fun y _ => rfl) (fun o ho => ?_) (fun yv hy => ?_)
  · obtain ⟨h1, h2, h3, h4, h5⟩ := id ho
    obtain ⟨o1, o2, o3⟩ := o
    simp only at h1 h2 h3 h4 h5
    have e1 : (opNum (o1, o2, o3)).toNat = (o1 - 1).toNat * 16 + o2.toNat := by
      rw [opNum_eq ho, BitVec.toNat_ofNat]; simp only; omega
    have e2 := ofInt_nat o3 h4 (by omega)
    refine ⟨⟨⟨by simp only [e1]; omega, trivial⟩, by simp; omega⟩, ?_⟩
    simp only [Prod.mk.injEq]
    rw [shr, and15, e1, e2]
    refine ⟨by omega, by omega, rfl⟩
  · obtain ⟨y, v⟩ := yv
    simp only [decide_eq_true_eq] at hy
    obtain ⟨⟨h1, _⟩, h2⟩ := hy
    have h1' : y.toNat < 32 := h1
    have hok : opOk (((y >>> 4).toNat : Int) + 1, ((y &&& 15#64).toNat : Int), (v.toNat : Int)) := by
      rw [shr, and15]
      exact ⟨by simp only; omega, by simp only; omega, by simp only; omega, by simp only; omega, by simp only; omega⟩
    refine ⟨hok, ?_⟩
    simp only [Prod.mk.injEq]
    refine ⟨?_, ?_⟩
    · apply BitVec.eq_of_toNat_eq
      rw [opNum_eq hok, BitVec.toNat_ofNat]
      simp only [shr, and15]
      omega
    · apply BitVec.eq_of_toNat_eq
      rw [BitVec.toNat_ofInt]
      omega

theorem good_ev : Coded evBits evP evOk := by
  have h := ((good_get 10 (by decide)).filt (fun x => decide ((x &&& 15#64).toNat ≤ 12)) 11 (by decide)).bind (fun x _ => good_op.many (x &&& 15#64).toNat)
  refine h.map _ (fun e => (evNum e, e.2.2)) evBits evOk (fun y _ => rfl) (fun e he => ?_) (fun xo hx => ?_)
  · obtain ⟨⟨h1, h2, h3, h4, h5⟩, h6⟩ := id he
    obtain ⟨e1, e2, e3⟩ := e
    simp only at h1 h2 h3 h4 h5 h6
    have a1 : (evNum (e1, e2, e3)).toNat = ((e1 - 1).toNat * 16 + (e2 - 1).toNat) * 16 + e3.length := by
      rw [evNum_eq he, BitVec.toNat_ofNat]; simp only; omega
    have a2 : (evNum (e1, e2, e3) &&& 15#64).toNat = e3.length := by rw [and15, a1]; omega
    refine ⟨⟨⟨by simp only [a1]; omega, by simp only [a2]; simp; omega⟩, by simp only [a2], h6⟩, ?_⟩
    simp only [Prod.mk.injEq]
    rw [shr, and15, shr, a1]
    refine ⟨by omega, by omega, trivial⟩
  · obtain ⟨x, os⟩ := xo
    simp only [decide_eq_true_eq] at hx
    obtain ⟨⟨h1, h2⟩, h3, h4⟩ := hx
    have h1' : x.toNat < 1024 := h1
    rw [and15] at h2 h3
    have hok : evOk (((x >>> 8).toNat : Int) + 1, ((x >>> 4 &&& 15#64).toNat : Int) + 1, os) := by
      rw [shr, and15, shr]
      exact ⟨⟨by simp only; omega, by simp only; omega, by simp only; omega, by simp only; omega, by simp only; omega⟩, h4⟩
    refine ⟨hok, ?_⟩
    simp only [Prod.mk.injEq]
    refine ⟨?_, trivial⟩
    apply BitVec.eq_of_toNat_eq
    rw [evNum_eq hok, BitVec.toNat_ofNat]
    simp only [shr, and15]
    omega

def esOk (l : List Ev) : Prop := l.length ≤ 400 ∧ ∀ e ∈ l, evOk e
theorem good_es : Coded esBits decP esOk := by
  have h := (good_num.filt (fun n => decide (n.toNat ≤ 400)) 4 (by decide)).bind (fun n _ => good_ev.many n.toNat)
  refine h.map _ (fun l => (BitVec.ofInt 64 l.length, l)) esBits esOk (fun y _ => rfl) (fun l hl => ?_) (fun nl hn => ?_)
  · obtain ⟨h1, h2⟩ := hl
    have e := ofInt_nat (l.length : Int) (by omega) (by omega)
    refine ⟨⟨⟨trivial, by simp; omega⟩, by simp only; omega, h2⟩, rfl⟩
  · obtain ⟨n, l⟩ := nl
    simp only [decide_eq_true_eq, true_and] at hn
    obtain ⟨h1, h2, h3⟩ := hn
    refine ⟨⟨by simp only; omega, h3⟩, ?_⟩
    simp only [Prod.mk.injEq]
    refine ⟨?_, trivial⟩
    apply BitVec.eq_of_toNat_eq
    rw [h2, BitVec.toNat_ofInt]
    omega

/-- what was written is read -/
theorem dec_enc {l : List Ev} (h : esOk l) : dec (bitsOf (pack (esBits l))) = (l, 0) := by
  unfold dec
  rw [allP_enc good_es h]
theorem dec_bad (l : Bits) : (dec l).2 = 0 ∨ ((dec l).1 = [] ∧ (dec l).2 ≠ 0) := by
  unfold dec
  cases h1 : allP decP l with
  | inl x => exact .inl rfl
  | inr e => exact .inr ⟨rfl, allP_err good_es h1⟩
/-- what is read is what was written -/
theorem dec_ok {b : Bytes} (h : (dec (bitsOf b)).2 = 0) : esOk (dec (bitsOf b)).1 ∧ b = pack (esBits (dec (bitsOf b)).1) := by
  unfold dec at h ⊢
  cases h1 : allP decP (bitsOf b) with
  | inr e => rw [h1] at h; exact absurd h (allP_err good_es h1)
  | inl x => exact allP_ok good_es h1
theorem dec_cut {l : List Ev} (h : esOk l) {k : Nat} (hk : k < (pack (esBits l)).length) : dec (bitsOf ((pack (esBits l)).take k)) = ([], 10) := by
  unfold dec
  rw [allP_cut good_es h hk]
theorem dec_more {l : List Ev} (h : esOk l) (c : BitVec 8) : dec (bitsOf (pack (esBits l) ++ [c])) = ([], 12) := by
  unfold dec
  rw [allP_more good_es h c]
end Go.Proofs.Ytennjoegjghlaaa.Bk

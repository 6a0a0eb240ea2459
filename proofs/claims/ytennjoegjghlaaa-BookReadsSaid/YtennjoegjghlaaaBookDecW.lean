
/-
  What book.Decode computes.
-/
import Derived.Test.YtennjoegjghlaaaRdS
import Derived.Test.YtennjoegjghlaaaBookDec
import Derived.Test.YtennjoegjghlaaaHistC
namespace Go.Proofs.Ytennjoegjghlaaa
open Go.RowKit
set_option linter.unusedVariables false

namespace Bk
open Bts
/-- what an event's reader tells and leaves -/
def EvPost (s : St) (e : Ev) (s' : St) : Prop := match s with
  | .inl l => (match evP l with
    | .inl x => e = x.1 ∧ s' = .inl x.2
    | .inr k => s' = .inr k)
  | .inr k => s' = .inr k
/-- between two operations -/
def Mid (s : St) (k : Nat) (ops : List Op) (s' : St) : Prop := match s with
  | .inl l => ∃ t, manyP opP k l = .inl (ops, t) ∧ s' = .inl t
  | .inr e => k = 0 ∧ s' = .inr e ∧ ops = []
theorem mid_start (s : St) : Mid s 0 [] s := by
  cases s with
  | inl l => exact ⟨l, rfl, rfl⟩
  | inr e => exact ⟨rfl, rfl, rfl⟩
/-- one operation more: the numbers that are read, where the reader is then -/
theorem op_step (st st1 st2 st3 : St) (y v : BitVec 64) (hy : y = (runS (getP 5) 0#64 st).1) (h1 : st1 = (runS (getP 5) 0#64 st).2) (hv : v = (runS numP 0#64 st1).1) (h2 : st2 = (runS numP 0#64 st1).2) (h3 : st3 = if 1099511627776 ≤ v.toNat then failS st2 11 else st2) (h0 : ∀ e, st = .inr e → e ≠ 0) :
    (∃ t u, st = .inl t ∧ st3 = .inl u ∧ v.toNat < 1099511627776 ∧ y.toNat < 32 ∧ opP t = .inl ((((y >>> 4).toNat : Int) + 1, ((y &&& 15#64).toNat : Int), (v.toNat : Int)), u)) ∨ (∃ e, st3 = .inr e ∧ e ≠ 0 ∧ (st = .inr e ∨ ∃ t, st = .inl t ∧ opP t = .inr e)) := by
  cases st with
  | inr e =>
    simp only [runS] at h1 hy
    subst h1
    simp only [runS] at hv h2
    subst hv h2
    rw [if_neg (by decide)] at h3
    exact .inr ⟨e, h3, h0 e rfl, .inl rfl⟩
  | inl t =>
    cases hg : getP 5 t with
    | inr e =>
      simp only [runS, hg] at h1 hy
      subst h1
      simp only [runS] at hv h2
      subst hv h2
      rw [if_neg (by decide)] at h3
      exact .inr ⟨e, h3, (good_get 5 (by decide)).err _ _ hg, .inr ⟨t, rfl, by simp only [opP, mapP, filtP, bindP, hg]⟩⟩
    | inl z =>
      obtain ⟨y', t1⟩ := z
      simp only [runS, hg] at h1 hy
      subst h1 hy
      cases hn : numP t1 with
      | inr e =>
        simp only [runS, hn] at hv h2
        subst hv h2
        rw [if_neg (by decide)] at h3
        exact .inr ⟨e, h3, good_num.err _ _ hn, .inr ⟨t, rfl, by simp only [opP, mapP, filtP, bindP, hg, hn]⟩⟩
      | inl z =>
        obtain ⟨v', u⟩ := z
        simp only [runS, hn] at hv h2
        subst hv h2
        have h32 : y.toNat < 2 ^ 5 := ((good_get 5 (by decide)).sound _ _ _ hg).1
        by_cases hb : 1099511627776 ≤ v.toNat
        · rw [if_pos hb] at h3
          exact .inr ⟨11, h3, by decide, .inr ⟨t, rfl, by simp only [opP, mapP, filtP, bindP, hg, hn]; rw [if_neg (by rw [decide_eq_true_eq]; omega)]⟩⟩
        · rw [if_neg hb] at h3
          refine .inl ⟨t, u, rfl, h3, by omega, h32, ?_⟩
          simp only [opP, mapP, filtP, bindP, hg, hn]
          rw [if_pos (by rw [decide_eq_true_eq]; omega)]
/-- the front of an event -/
theorem ev_front (s s1 s2 : St) (x : BitVec 64) (hx : x = (runS (getP 10) 0#64 s).1) (h1 : s1 = (runS (getP 10) 0#64 s).2) (h2 : s2 = if 12 < (x &&& 15#64).toNat then failS s1 11 else s1) (h0 : ∀ e, s = .inr e → e ≠ 0) :
    x.toNat < 1024 ∧ (∀ e, s2 = .inr e → e ≠ 0) ∧ (12 < (x &&& 15#64).toNat → ∃ e, s2 = .inr e) ∧
    (∀ ops s', Mid s2 (x &&& 15#64).toNat ops s' → EvPost s (((x >>> 8).toNat : Int) + 1, ((x >>> 4 &&& 15#64).toNat : Int) + 1, ops) s') ∧
    (∀ k t e e', k < (x &&& 15#64).toNat → ((s2 = .inr e) ∨ (∃ l ops, s2 = .inl l ∧ manyP opP k l = .inl (ops, t) ∧ opP t = .inr e)) → EvPost s e' (.inr e)) := by
  cases s with
  | inr e =>
    simp only [runS] at h1 hx
    subst h1 hx
    rw [if_neg (by decide)] at h2
    subst h2
    refine ⟨by decide, fun k hk => by injection hk with hk; subst hk; exact h0 _ rfl, fun h => absurd h (by decide), fun ops s' hm => hm.2.1, fun k t e e' hk => absurd hk (by simp)⟩
  | inl l =>
    cases hg : getP 10 l with
    | inr e =>
      simp only [runS, hg] at h1 hx
      subst h1 hx
      rw [if_neg (by decide)] at h2
      subst h2
      have hev : evP l = .inr e := by simp only [evP, mapP, filtP, bindP, hg]
      refine ⟨by decide, fun k hk => by injection hk with hk; subst hk; exact (good_get 10 (by decide)).err _ _ hg, fun h => absurd h (by decide), fun ops s' hm => ?_, fun k t e e' hk => absurd hk (by simp)⟩
      simp only [EvPost, hev]
      exact hm.2.1
    | inl z =>
      obtain ⟨x', t1⟩ := z
      simp only [runS, hg] at h1 hx
      subst h1 hx
      have hlt : x.toNat < 2 ^ 10 := ((good_get 10 (by decide)).sound _ _ _ hg).1
      by_cases h12 : 12 < (x &&& 15#64).toNat
      · rw [if_pos h12] at h2
        simp only [failS] at h2
        subst h2
        have hev : evP l = .inr 11 := by
          simp only [evP, mapP, filtP, bindP, hg]
          rw [if_neg (by rw [decide_eq_true_eq]; omega)]
        refine ⟨hlt, fun k hk => by injection hk with hk; subst hk; decide, fun _ => ⟨_, rfl⟩, fun ops s' hm => by have := hm.1; omega, fun k t e e' hk h => ?_⟩
        simp only [EvPost, hev]
        rcases h with h | ⟨l, ops, h, _⟩
        · injection h with h; rw [h]
        · cases h
      · rw [if_neg h12] at h2
        subst h2
        refine ⟨hlt, (fun k hk => by cases hk), fun h => absurd h h12, fun ops s' hm => ?_, fun k t e e' hk h => ?_⟩
        · obtain ⟨t, ht, rfl⟩ := hm
          have hev : evP l = .inl ((((x >>> 8).toNat : Int) + 1, ((x >>> 4 &&& 15#64).toNat : Int) + 1, ops), t) := by
            simp only [evP, mapP, filtP, bindP, hg]
            rw [if_pos (by rw [decide_eq_true_eq]; omega)]
            simp only [ht]
          simp only [EvPost, hev, and_self]
        · rcases h with h | ⟨l1, ops, h, h3, h4⟩
          · cases h
          · injection h with h; subst h
            have hm := manyP_err (manyP_bad h3 h4) (show k + 1 ≤ (x &&& 15#64).toNat by omega)
            have hev : evP l = .inr e := by
              simp only [evP, mapP, filtP, bindP, hg]
              rw [if_pos (by rw [decide_eq_true_eq]; omega)]
              simp only [hm]
            simp only [EvPost, hev]
end Bk

theorem RdS.err {ok : Nat → Prop} {w : World} {g : Nat} {b : List (BitVec 8)} {s : Bts.St} (h : RdS ok w g b s) : ∀ e, s = .inr e → e ≠ 0 := by
  rintro e rfl
  obtain ⟨r, _, h⟩ := h
  exact h.1
/-- what is owned, while another block is written; its elements hold nothing besides -/
theorem Own.flat_set {α : Type} {E : Enc α} {te : TypeId} {base : Nat} {w : World} {v : Value} {l : List α} {p : Addr} {x : Value} (hf : ∀ {ok w ok' w' cs x}, E.rep ok w cs x → E.rep ok' w' cs x) (h : Own E te base w v l) (hne : p.block < base) : Own E te base (w.setCell p x) v l := by
  rcases h with h | ⟨g, cap, cur, hv, hg, hh, h1, h2, h3, h4⟩
  · exact .inl h
  · have hgp : g ≠ p.block := by omega
    refine .inr ⟨g, cap, cur, hv, hg, by rw [Below.heap_setCell _ _ _ _ hgp]; exact hh, h1, h2, h3, fun k y hk => ?_⟩
    obtain ⟨cs, hr, hc⟩ := h4 k y hk
    exact ⟨cs, hf hr, hc⟩
/-- what is owned, while blocks below its base turn -/
theorem Own.flat_only {α : Type} {E : Enc α} {te : TypeId} {base : Nat} {w w' : World} {v : Value} {l : List α} {S : Nat → Prop} (hf : ∀ {ok w ok' w' cs x}, E.rep ok w cs x → E.rep ok' w' cs x) (h : Own E te base w v l) (ho : Only S w w') (hS : ∀ k, S k → k < base) : Own E te base w' v l := by
  rcases h with h | ⟨g, cap, cur, hv, hg, hh, h1, h2, h3, h4⟩
  · exact .inl h
  · refine .inr ⟨g, cap, cur, hv, hg, by rw [ho.block g (Array.getElem?_eq_some_iff.1 hh).1 (fun hs => by have := hS g hs; omega)]; exact hh, h1, h2, h3, fun k y hk => ?_⟩
    obtain ⟨cs, hr, hc⟩ := h4 k y hk
    exact ⟨cs, hf hr, hc⟩
/-- three cells of a block are written -/
theorem set3 {w : World} {g : Nat} {a b c : Value} {t : TypeId} (h : w.heap[g]? = some (.cells #[a, b, c] t (0, 0))) (x y z : Value) :
    (((w.setCell ⟨g, 0, none⟩ x).setCell ⟨g, 1, none⟩ y).setCell ⟨g, 2, none⟩ z).heap[g]? = some (.cells #[x, y, z] t (0, 0)) ∧ Only (· = g) w (((w.setCell ⟨g, 0, none⟩ x).setCell ⟨g, 1, none⟩ y).setCell ⟨g, 2, none⟩ z) := by
  refine ⟨?_, ?_⟩
  · have h1 := heap_set h 0 x
    have h2 := heap_set h1 1 y
    have h3 := heap_set h2 2 z
    simpa using h3
  · exact ((Only.setCell (S := (· = g)) (Only.refl _ _) (p := ⟨g, 0, none⟩) (.inl rfl) x).setCell (p := ⟨g, 1, none⟩) (.inl rfl) y).setCell (p := ⟨g, 2, none⟩) (.inl rfl) z
/-- what an event's reader leaves -/
def EventPost (ok : Nat → Prop) (B g : Nat) (b : List (BitVec 8)) (s : Bts.St) (w : World) (e : Ending) (w' : World) : Prop :=
  ∃ (x1 x2 : Int) (v : Value) (ops : List Bk.Op) (s' : Bts.St), e = .returned (.agg #[.int .i64 x1, .int .i64 x2, v]) ∧ Own EOp 79 B w' v ops ∧ RdS ok w' g b s' ∧ Bk.EvPost s (x1, x2, ops) s' ∧ Only (· = g) w w' ∧ ops.length ≤ 15 ∧ (1 ≤ x1 ∧ x1 ≤ 72057594037927937) ∧ (1 ≤ x2 ∧ x2 ≤ 16)
theorem eop_flat {ok ok' : Nat → Prop} {w w' : World} {cs : List Value} {x : Bk.Op} (h : EOp.rep ok w cs x) : EOp.rep ok' w' cs x := h

theorem op_mk {ok : Nat → Prop} {w : World} {x y z : Int} (hx : -9223372036854775808 ≤ x ∧ x ≤ 9223372036854775807) (hy : -9223372036854775808 ≤ y ∧ y ≤ 9223372036854775807) (hz : -9223372036854775808 ≤ z ∧ z ≤ 9223372036854775807) :
    EOp.rep ok w [.int .i64 x, .int .i64 y, .int .i64 z] (x, y, z) :=
  ⟨[.int .i64 x], [.int .i64 y, .int .i64 z], rfl, ⟨rfl, hx.1, hx.2⟩, [.int .i64 y], [.int .i64 z], rfl, ⟨rfl, hy.1, hy.2⟩, rfl, hz.1, hz.2⟩
set_option maxRecDepth 100000 in
set_option maxHeartbeats 3200000 in
theorem book_event {ok : Nat → Prop} (B g : Nat) (b : List (BitVec 8)) (s : Bts.St) (w : World) (hB : w.heap.size = B) (hr : RdS ok w g b s) (hl : b.length ≤ 1099511627776) (hok : ∀ k, ok k → k < B) :
    Calls Try.prog 48 #[.pointer (some ⟨g, 0, none⟩)] w (EventPost ok B g b s w) := by
  have hgB : g < B := by rw [← hB]; exact hr.lt
  obtain ⟨w0, hw0⟩ : ∃ x, x = w.alloc (.cells #[.int .i64 0, .int .i64 0, .slice none 0 0] 69) := ⟨_, rfl⟩
  have hb0 : Below B w w0 := by subst hw0; subst hB; exact (Below.refl _ _).alloc (Nat.le_refl _) _
  have hz0 : w0.heap.size = B + 1 := by subst hw0; subst hB; simp
  have hh0 : w0.heap[B]? = some (.cells #[.int .i64 0, .int .i64 0, .slice none 0 0] 69 (0, 0)) := by subst hw0; subst hB; exact heap_alloc_new w _
  have hr0 : RdS ok w0 g b s := hr.keep (by rw [hB]; exact hb0)
  go_enter Try.func48, Try.ntmps48
  go_wp2_with fail
  rw [← hw0]
  have HB := Lib.hid hB
  clear hw0 hr hB
  refine (bits_GetS g b s 10 10 _ hr0 hl (by rfl) (by decide)).mono ?_
  rintro e w1 ⟨rfl, hr1, ho1⟩
  obtain ⟨x, hx⟩ : ∃ x, x = (Bts.runS (Bts.getP 10) 0#64 s).1 := ⟨_, rfl⟩
  obtain ⟨s1, hs1⟩ : ∃ x, x = (Bts.runS (Bts.getP 10) 0#64 s).2 := ⟨_, rfl⟩
  rw [← hs1] at hr1
  rw [← hx]
  have Hx := Lib.hid hx
  have Hs1 := Lib.hid hs1
  clear hx hs1
  have hx1 : wrap64 ((x.toNat : Int) >>> 8 + 1) = ((x >>> 8).toNat : Int) + 1 := by
    rw [IntWalk.wrap64_in _ (by rw [Int.shiftRight_eq_div_pow]; have := x.isLt; omega), BitVec.toNat_ushiftRight]; rfl
  have hx2 : wrap64 ((((x.toNat >>> 4 &&& 15 : Nat) : Int)).bmod 18446744073709551616 + 1) = ((x >>> 4 &&& 15#64).toNat : Int) + 1 := by
    have h : x.toNat >>> 4 &&& 15 = (x >>> 4 &&& 15#64).toNat := by rw [BitVec.toNat_and, BitVec.toNat_ushiftRight]; rfl
    have h2 : (x >>> 4 &&& 15#64).toNat < 16 := by rw [Bk.and15]; omega
    rw [h, Int.bmod_def, if_pos (by omega), Int.emod_eq_of_lt (by omega) (by omega)]
    exact IntWalk.wrap64_in _ (by omega)
  obtain ⟨x1, hx1'⟩ : ∃ x1, x1 = ((x >>> 8).toNat : Int) + 1 := ⟨_, rfl⟩
  obtain ⟨x2, hx2'⟩ : ∃ x2, x2 = ((x >>> 4 &&& 15#64).toNat : Int) + 1 := ⟨_, rfl⟩
  rw [← hx1'] at hx1
  rw [← hx2'] at hx2
  have Hx1 := Lib.hid hx1'
  have Hx2 := Lib.hid hx2'
  clear hx1' hx2'
  go_upto_region 3 with fail
  obtain ⟨E, hE⟩ : ∃ E, E = w1.heap.size := ⟨_, rfl⟩
  obtain ⟨w2, hw2⟩ : ∃ z, z = w1.alloc (.cells #[.int .i64 x1, .int .i64 x2, .slice none 0 0] 69) := ⟨_, rfl⟩
  have hb2 : Below w1.heap.size w1 w2 := by subst hw2; exact (Below.refl _ _).alloc (Nat.le_refl _) _
  have hhE : w2.heap[E]? = some (.cells #[.int .i64 x1, .int .i64 x2, .slice none 0 0] 69 (0, 0)) := by subst hw2; subst hE; exact heap_alloc_new w1 _
  have hBE : B < E := by have := ho1.size; omega
  have hhB : w2.heap[B]? = some (.cells #[.int .i64 0, .int .i64 0, .slice none 0 0] 69 (0, 0)) := by
    rw [hb2.block B (by omega), ho1.block B (by omega) (by omega)]; exact hh0
  have hr2 : RdS ok w2 g b s1 := hr1.keep hb2
  have ho2 : Only (· = g) w w2 := by
    have hb0' : Below w.heap.size w w0 := by rw [HB.out]; exact hb0
    exact ((Below.only (S := (· = g)) hb0').trans ho1 fun _ _ h => h).trans (Below.only (S := (· = g)) hb2) fun _ _ h => h
  rw [← hw2]
  rw [← hE]
  have h0 := hr0.err
  obtain ⟨s2, hs2⟩ : ∃ z, z = if 12 < (x &&& 15#64).toNat then Bts.failS s1 11 else s1 := ⟨_, rfl⟩
  obtain ⟨f1, f2, f3, f4, f5⟩ := Bk.ev_front s s1 s2 x Hx.out Hs1.out hs2 h0
  rw [← Hx1.out, ← Hx2.out] at f4
  obtain ⟨n, hn⟩ : ∃ n, n = (x &&& 15#64).toNat := ⟨_, rfl⟩
  rw [← hn] at hs2 f3 f4 f5
  have hn15 : n ≤ 15 := by rw [hn, Bk.and15]; omega
  have hr1x : 1 ≤ x1 ∧ x1 ≤ 72057594037927937 := by rw [Hx1.out, Bk.shr]; have := x.isLt; omega
  have hr2x : 1 ≤ x2 ∧ x2 ≤ 16 := by rw [Hx2.out, Bk.and15]; omega
  have hbn : bv (x &&& 15#64) = (n : Int) := by unfold bv; rw [hn]
  have Hbn := Lib.hid hbn
  have Hs2 := Lib.hid hs2
  have F3 := Lib.hid f3
  have F4 := Lib.hid f4
  have F5 := Lib.hid f5
  have Hn := Lib.hid hn
  clear hx1 hx2 hw2 hE hr0 hr1 ho1 hh0 hz0 hb0 hb2 f3 f4 f5 hn hs2 f2 h0
  have hEs : E < w2.heap.size := (Array.getElem?_eq_some_iff.1 hhE).1
  have hBs : B < w2.heap.size := by omega
  clear hbn
  go_upto_if 21 with fail
  go_cut [] (fun wx => RdS ok wx g b s2 ∧ Only (· = g) w2 wx)
  case first =>
    by_cases h12 : 12 < n
    · have h12' : 12 < bv (x &&& 15#64) := by rw [Hbn.out]; omega
      have hz : s2 = Bts.failS s1 11 := by rw [Hs2.out, if_pos h12]
      have Hz := Lib.hid hz
      clear hz h12
      go_wp2_with fail
      refine (bits_FailS g b s1 11 _ hr2 (by decide) (by decide)).mono ?_
      rintro e w3 ⟨rfl, hr3, ho3⟩
      go_wp2_with fail
      go_meet
      exact ⟨by rw [Hz.out]; exact hr3, ho3⟩
    · have h12' : ¬ (12 < bv (x &&& 15#64)) := by rw [Hbn.out]; omega
      have hz : s2 = s1 := by rw [Hs2.out, if_neg h12]
      have Hz := Lib.hid hz
      clear hz h12
      go_wp2_with fail
      go_meet
      exact ⟨by rw [Hz.out]; exact hr2, Only.refl _ _⟩
  obtain ⟨hr3, ho3⟩ := hcut
  obtain ⟨w3, hw3⟩ : ∃ z, z = wc := ⟨_, rfl⟩
  subst hw3
  have hhE3 : w3.heap[E]? = some (.cells #[.int .i64 x1, .int .i64 x2, .slice none 0 0] 69 (0, 0)) := by rw [ho3.block E hEs (by omega)]; exact hhE
  have hhB3 : w3.heap[B]? = some (.cells #[.int .i64 0, .int .i64 0, .slice none 0 0] 69 (0, 0)) := by rw [ho3.block B hBs (by omega)]; exact hhB
  have ho3' : Only (· = g) w w3 := ho2.trans ho3 fun _ _ h => h
  clear hhE hhB hr2 ho2 ho3 hEs hBs
  go_wp2_with fail
  go_loopw [26] (fun i wr => ∃ (k : Nat) (v : Value) (ops : List Bk.Op) (st : Bts.St), k ≤ n ∧ i = .int .u64 (bv (BitVec.ofNat 64 k)) ∧ RdS ok wr g b st ∧ Own EOp 79 (E + 1) wr v ops ∧ ops.length = k ∧
      wr.heap[E]? = some (.cells #[.int .i64 x1, .int .i64 x2, v] 69 (0, 0)) ∧ wr.heap[B]? = some (.cells #[.int .i64 0, .int .i64 0, .slice none 0 0] 69 (0, 0)) ∧ Only (· = g) w wr ∧ Bk.Mid s2 k ops st) (fun i _ => n - (intOf i).toNat)
  case atStart => exact ⟨0, _, [], s2, Nat.zero_le _, rfl, hr3, Own.nil _ _ _ _, rfl, hhE3, hhB3, ho3', Bk.mid_start s2⟩
  case round =>
    clear hr3 hhE3 hhB3 ho3'
    obtain ⟨k, v, ops, st, hk, rfl, hr, ho, hol, hhE, hhB, hoo, hmid⟩ := hrel
    obtain ⟨a, c, rfl, hkc, hcm, hrs, _⟩ := ho.shape k hol.symm
    have hbk : bv (BitVec.ofNat 64 k) = (k : Int) := by unfold bv; rw [BitVec.toNat_ofNat]; omega
    have Hbk := Lib.hid hbk
    have c0 : wr.cell? ⟨E, 0, none⟩ = some (.int .i64 x1) := by simp [World.cell?, hhE]
    have c1 : wr.cell? ⟨E, 1, none⟩ = some (.int .i64 x2) := by simp [World.cell?, hhE]
    have c2 : wr.cell? ⟨E, 2, none⟩ = some (.slice a k c) := by simp [World.cell?, hhE]
    have d0 : wr.cell? ⟨B, 0, none⟩ = some (.int .i64 0) := by simp [World.cell?, hhB]
    have d1 : wr.cell? ⟨B, 1, none⟩ = some (.int .i64 0) := by simp [World.cell?, hhB]
    have d2 : wr.cell? ⟨B, 2, none⟩ = some (.slice none 0 0) := by simp [World.cell?, hhB]
    have df : ∀ o, wr.frozen? ⟨B, o, none⟩ = false := fun o => by simp [World.frozen?, hhB]
    have Hmid := Lib.hid hmid
    clear hmid hbk
    by_cases hlt : k < n
    · have hlt' : bv (BitVec.ofNat 64 k) < bv (x &&& 15#64) := by rw [Hbk.out, Hbn.out]; omega
      go_wp2_with fail
      refine (bits_GetS g b st 5 5 _ hr hl (by rfl) (by decide)).mono ?_
      rintro e w4 ⟨rfl, hr4, ho4⟩
      obtain ⟨y, hy⟩ : ∃ z, z = (Bts.runS (Bts.getP 5) 0#64 st).1 := ⟨_, rfl⟩
      obtain ⟨st1, hst1⟩ : ∃ z, z = (Bts.runS (Bts.getP 5) 0#64 st).2 := ⟨_, rfl⟩
      rw [← hst1] at hr4
      rw [← hy]
      have Hy := Lib.hid hy
      have Hst1 := Lib.hid hst1
      clear hy hst1
      go_wp2_with fail
      refine (bits_RNumS g b st1 _ hr4 hl).mono ?_
      rintro e w5 ⟨rfl, hr5, ho5⟩
      obtain ⟨q, hq⟩ : ∃ z, z = (Bts.runS Bts.numP 0#64 st1).1 := ⟨_, rfl⟩
      obtain ⟨st2, hst2⟩ : ∃ z, z = (Bts.runS Bts.numP 0#64 st1).2 := ⟨_, rfl⟩
      rw [← hst2] at hr5
      rw [← hq]
      have Hq := Lib.hid hq
      have Hst2 := Lib.hid hst2
      clear hq hst2
      obtain ⟨st3, hst3⟩ : ∃ z, z = if 1099511627776 ≤ q.toNat then Bts.failS st2 11 else st2 := ⟨_, rfl⟩
      have hstep := Bk.op_step st st1 st2 st3 y q Hy.out Hst1.out Hq.out Hst2.out hst3 hr.err
      have Hst3 := Lib.hid hst3
      have Hstep := Lib.hid hstep
      clear hst3 hstep
      obtain ⟨dq, hdq⟩ : ∃ z, decide (1099511627776 ≤ bv q) = z := ⟨_, rfl⟩
      go_upto_if 33 with fail
      have Hdq := Lib.hid hdq
      clear hdq
      go_cut [] (fun wx => RdS ok wx g b st3 ∧ Only (· = g) w5 wx)
      case first =>
        cases dq
        · have hz : st3 = st2 := by
            have := of_decide_eq_false Hdq.out
            rw [Hst3.out, if_neg (by unfold bv at this; omega)]
          have Hz := Lib.hid hz
          clear hz
          go_wp2_with fail
          go_meet
          exact ⟨by rw [Hz.out]; exact hr5, Only.refl _ _⟩
        · have hz : st3 = Bts.failS st2 11 := by
            have := of_decide_eq_true Hdq.out
            rw [Hst3.out, if_pos (by unfold bv at this; omega)]
          have Hz := Lib.hid hz
          clear hz
          go_wp2_with fail
          refine (bits_FailS g b st2 11 _ hr5 (by decide) (by decide)).mono ?_
          rintro e w6 ⟨rfl, hr6, ho6⟩
          go_wp2_with fail
          go_meet
          exact ⟨by rw [Hz.out]; exact hr6, ho6⟩
      obtain ⟨hr6, ho6⟩ := hcut
      obtain ⟨w6, hw6⟩ : ∃ z, z = wc := ⟨_, rfl⟩
      subst hw6
      have hoq : Only (· = g) wr w6 := (ho4.trans ho5 fun _ _ h => h).trans ho6 fun _ _ h => h
      have hEr : E < wr.heap.size := cell_lt c0
      have hhE6 : w6.heap[E]? = some (.cells #[.int .i64 x1, .int .i64 x2, .slice a k c] 69 (0, 0)) := by rw [hoq.block E hEr (by omega)]; exact hhE
      have hhB6 : w6.heap[B]? = some (.cells #[.int .i64 0, .int .i64 0, .slice none 0 0] 69 (0, 0)) := by rw [hoq.block B (by omega) (by omega)]; exact hhB
      have ho6' : Own EOp 79 (E + 1) w6 (.slice a k c) ops := ho.flat_only eop_flat hoq fun j hj => by omega
      have hoo6 : Only (· = g) w w6 := hoo.trans hoq fun _ _ h => h
      clear ho4 ho5 ho6 hr4 hr5 hoq hoo ho hhE hhB hr c0 c1 c2 d0 d1 d2 df
      have c0 : w6.cell? ⟨E, 0, none⟩ = some (.int .i64 x1) := by simp [World.cell?, hhE6]
      have c1 : w6.cell? ⟨E, 1, none⟩ = some (.int .i64 x2) := by simp [World.cell?, hhE6]
      have c2 : w6.cell? ⟨E, 2, none⟩ = some (.slice a k c) := by simp [World.cell?, hhE6]
      have d0 : w6.cell? ⟨B, 0, none⟩ = some (.int .i64 0) := by simp [World.cell?, hhB6]
      have d1 : w6.cell? ⟨B, 1, none⟩ = some (.int .i64 0) := by simp [World.cell?, hhB6]
      have d2 : w6.cell? ⟨B, 2, none⟩ = some (.slice none 0 0) := by simp [World.cell?, hhB6]
      have df : ∀ o, w6.frozen? ⟨B, o, none⟩ = false := fun o => by simp [World.frozen?, hhB6]
      have hE6 : E < w6.heap.size := cell_lt c0
      go_wp2_with fail
      refine (bits_ErrS g b st3 _ hr6).mono ?_
      rintro e w7 ⟨rfl, rfl⟩
      rcases Hstep.out with ⟨t, u, hst, hst3, hq40, hy32, hop⟩ | ⟨e, hst3, he0, hst⟩
      · have herr : Bts.errS st3 = 0 := by rw [hst3]; rfl
        rw [herr]
        clear herr
        obtain ⟨o1, ho1⟩ : ∃ z, z = ((y >>> 4).toNat : Int) + 1 := ⟨_, rfl⟩
        obtain ⟨o2, ho2⟩ : ∃ z, z = ((y &&& 15#64).toNat : Int) := ⟨_, rfl⟩
        obtain ⟨o3, ho3⟩ : ∃ z, z = (q.toNat : Int) := ⟨_, rfl⟩
        rw [← ho1, ← ho2, ← ho3] at hop
        have hy1 : wrap64 ((y.toNat : Int) >>> 4 + 1) = o1 := by
          rw [ho1, IntWalk.wrap64_in _ (by rw [Int.shiftRight_eq_div_pow]; have := y.isLt; omega), BitVec.toNat_ushiftRight]; rfl
        have hy2 : (((y.toNat &&& 15 : Nat) : Int)).bmod 18446744073709551616 = o2 := by
          have h : y.toNat &&& 15 = (y &&& 15#64).toNat := by rw [BitVec.toNat_and]; rfl
          have h2 : (y &&& 15#64).toNat < 16 := by rw [Bk.and15]; omega
          rw [ho2, h, Int.bmod_def, if_pos (by omega), Int.emod_eq_of_lt (by omega) (by omega)]
        have hy3 : q.toInt = o3 := by rw [ho3, BitVec.toInt_eq_toNat_cond, if_pos (by omega)]
        have r1 : -9223372036854775808 ≤ o1 ∧ o1 ≤ 9223372036854775807 := by rw [ho1, Bk.shr]; omega
        have r2 : -9223372036854775808 ≤ o2 ∧ o2 ≤ 9223372036854775807 := by rw [ho2, Bk.and15]; omega
        have r3 : -9223372036854775808 ≤ o3 ∧ o3 ≤ 9223372036854775807 := by rw [ho3]; omega
        have hmid' : Bk.Mid s2 (k + 1) (ops ++ [(o1, o2, o3)]) (.inl u) := by
          have hm := Hmid.out
          unfold Bk.Mid at hm ⊢
          cases h2 : s2 with
          | inl l =>
            rw [h2] at hm
            obtain ⟨t', h3, h'⟩ := hm
            rw [hst] at h'
            injection h' with h'
            subst h'
            exact ⟨u, Bts.manyP_ok h3 hop, rfl⟩
          | inr e' => rw [h2] at hm; rw [hst] at hm; cases hm.2.1
        have Hmid' := Lib.hid hmid'
        have hb7 : Below w6.heap.size w6 (w6.alloc (.cells #[.int .i64 o1, .int .i64 o2, .int .i64 o3] 79)) := (Below.refl _ _).alloc (Nat.le_refl _) _
        have ho7 := ho6'.below hb7
        have hsl7 : Sl EOp (fun b => some b ≠ (Value.slice a k c).ownBlock) (w6.alloc (.cells #[.int .i64 o1, .int .i64 o2, .int .i64 o3] 79)) (some ⟨w6.heap.size, 0, none⟩) [(o1, o2, o3)] :=
          sl_one (heap_alloc_new w6 _) (op_mk r1 r2 r3) ho6'.fresh
        have Hst3' := Lib.hid hst3
        have Hol := Lib.hid hol
        clear hmid' ho1 ho2 ho3 hop hst hst3 hq40 hy32 r1 r2 r3
        go_wp2_with (first
          | (refine wpList_app EOp rfl rfl (by rfl) (by rfl) ti_ops ho7 rfl hsl7 (by rw [Hol.out]; unfold maxLen; simp; omega) (by rw [Hol.out]; simp; omega) (by simp; omega) ?_
             intro v8 w8 ho8 hg8 hv8 hb8
             obtain ⟨a8, c8, rfl, hc8, hm8, hr8, ho8'⟩ := ho8.shape (k + 1) (by simp [Hol.out])
             have k2 : w8.cell? ⟨E, 2, none⟩ = some (.slice a k c) := by rw [hb8.cell (p := ⟨E, 2, none⟩) (Nat.lt_succ_self E)]; exact cell_thru c2 hb7
             have kf : w8.frozen? ⟨E, 2, none⟩ = false := by
               rw [hb8.frozen (p := ⟨E, 2, none⟩) (Nat.lt_succ_self E), hb7.frozen (p := ⟨E, 2, none⟩) hE6]; simp [World.frozen?, hhE6]))
        have hhE8 : w8.heap[E]? = some (.cells #[.int .i64 x1, .int .i64 x2, .slice a k c] 69 (0, 0)) := by
          rw [hb8.block E (Nat.lt_succ_self E), hb7.block E hE6]; exact hhE6
        have hhB8 : w8.heap[B]? = some (.cells #[.int .i64 0, .int .i64 0, .slice none 0 0] 69 (0, 0)) := by
          rw [hb8.block B (by omega), hb7.block B (by omega)]; exact hhB6
        have hE9 := heap_set hhE8 2 (.slice a8 (k + 1) c8)
        have hB9 : (w8.setCell ⟨E, 2, none⟩ (.slice a8 (k + 1) c8)).heap[B]? = some (.cells #[.int .i64 0, .int .i64 0, .slice none 0 0] 69 (0, 0)) := by
          rw [Below.heap_setCell _ _ _ _ (by simp; omega)]; exact hhB8
        have hO8 : Only (fun j => j = g ∨ j = E) w w8 := by
          have h1 : Only (fun j => j = g ∨ j = E) w w6 := hoo6.mono fun j hj => .inl hj
          have h2 : Only (fun j => E + 1 ≤ j) w6 w8 := (Below.only (S := fun j => E + 1 ≤ j) hb7).trans (T := fun j => E + 1 ≤ j) ⟨hb8.os, hb8.tape, hb8.output, hb8.size, fun j hj hn => hb8.block j (by omega)⟩ fun _ _ h => h
          refine ⟨h2.os.trans h1.os, h2.tape.trans h1.tape, h2.output.trans h1.output, Nat.le_trans h1.size h2.size, fun j hj hn => ?_⟩
          have := HB.out
          rw [h2.block j (Nat.lt_of_lt_of_le hj h1.size) (by omega), h1.block j hj hn]
        have hnext : bv (BitVec.ofNat 64 k + 1#64) = bv (BitVec.ofNat 64 (k + 1)) := by rw [BitVec.ofNat_add]
        have hbk' : bv (BitVec.ofNat 64 (k + 1)) = ((k + 1 : Nat) : Int) := by unfold bv; rw [BitVec.toNat_ofNat]; omega
        have Hnext := Lib.hid hnext
        have Hbk' := Lib.hid hbk'
        clear hnext hbk'
        go_roundw
        case rel =>
          refine ⟨k + 1, .slice a8 (k + 1) c8, ops ++ [(o1, o2, o3)], .inl u, by omega, by rw [Hnext.out], ?_, ?_, by simp [Hol.out], ?_, hB9, ?_, Hmid'.out⟩
          · rw [← Hst3'.out]
            have h2 : Only (fun j => E + 1 ≤ j) w6 w8 := (Below.only (S := fun j => E + 1 ≤ j) hb7).trans (T := fun j => E + 1 ≤ j) ⟨hb8.os, hb8.tape, hb8.output, hb8.size, fun j hj hn => hb8.block j (by omega)⟩ fun _ _ h => h
            exact (hr6.only h2 (by omega) fun j hj => by have := hok j hj; omega).only (Only.setCell (S := (· = E)) (Only.refl _ _) (p := ⟨E, 2, none⟩) (.inl rfl) _) (by omega) fun j hj => by have := hok j hj; omega
          · exact ho8'.flat_set eop_flat (by simp)
          · simpa using hE9
          · have h1 := hO8.setCell (p := ⟨E, 2, none⟩) (.inl (.inr rfl)) (.slice a8 (k + 1) c8)
            exact ⟨h1.os, h1.tape, h1.output, h1.size, fun j hj hn => h1.block j hj (by have := HB.out; omega)⟩
        case measure =>
          rw [Hnext.out]
          show n - (bv (BitVec.ofNat 64 (k + 1))).toNat < n - (bv (BitVec.ofNat 64 k)).toNat
          rw [Hbk'.out, Hbk.out]
          omega
      · have herr : Bts.errS st3 = e := by rw [hst3]; rfl
        rw [herr]
        have he0' : (e != 0) = true := by simpa using he0
        have hfin : Bk.EvPost s (x1, x2, ops) (.inr e) := by
          obtain ⟨t, ht⟩ : ∃ t : Bts.Bits, True := ⟨[], trivial⟩
          have hm := Hmid.out
          rcases hst with hst | ⟨t, hst, hop⟩
          · refine F5.out k t e _ hlt (.inl ?_)
            unfold Bk.Mid at hm
            cases h2 : s2 with
            | inl l => rw [h2] at hm; obtain ⟨t', _, h'⟩ := hm; rw [hst] at h'; cases h'
            | inr e' => rw [h2] at hm; rw [hst] at hm; exact hm.2.1.symm
          · refine F5.out k t e _ hlt (.inr ?_)
            unfold Bk.Mid at hm
            cases h2 : s2 with
            | inl l => rw [h2] at hm; obtain ⟨t', h3, h'⟩ := hm; rw [hst] at h'; injection h' with h'; subst h'; exact ⟨l, ops, rfl, h3, hop⟩
            | inr e' => rw [h2] at hm; rw [hst] at hm; cases hm.2.1
        have Hfin := Lib.hid hfin
        clear herr hfin he0 hst
        obtain ⟨s3, s4⟩ := set3 hhB6 (.int .i64 x1) (.int .i64 x2) (.slice a k c)
        have S3 := Lib.hid s3
        clear s3
        go_wp2_with fail
        refine bodyPost_ret (v := .agg #[.int .i64 x1, .int .i64 x2, .slice a k c]) (by simp [results, Try.results48, go_sem, d0, d1, d2]) rfl ?_
        refine ⟨x1, x2, _, ops, .inr e, rfl, ?_, ?_, Hfin.out, ?_, by omega, hr1x, hr2x⟩
        · exact (ho6'.flat_only eop_flat s4 fun j hj => by omega).base (by omega)
        · rw [← hst3]
          exact hr6.only s4 (by omega) fun j hj => by have := hok j hj; omega
        · exact ⟨s4.os.trans hoo6.os, s4.tape.trans hoo6.tape, s4.output.trans hoo6.output, Nat.le_trans hoo6.size s4.size, fun j hj hn => (s4.block j (Nat.lt_of_lt_of_le hj hoo6.size) (by have := HB.out; omega)).trans (hoo6.block j hj hn)⟩
    · have hlt' : ¬ (bv (BitVec.ofNat 64 k) < bv (x &&& 15#64)) := by rw [Hbk.out, Hbn.out]; omega
      have hkn : k = n := by omega
      have hfin := F4.out ops st (by rw [← hkn]; exact Hmid.out)
      have Hfin := Lib.hid hfin
      clear hfin hkn
      obtain ⟨s3, s4⟩ := set3 hhB (.int .i64 x1) (.int .i64 x2) (.slice a k c)
      have S3 := Lib.hid s3
      clear s3
      go_wp2_with fail
      refine bodyPost_ret (v := .agg #[.int .i64 x1, .int .i64 x2, .slice a k c]) (by simp [results, Try.results48, go_sem, d0, d1, d2]) rfl ?_
      refine ⟨x1, x2, _, ops, st, rfl, ?_, ?_, Hfin.out, ?_, by omega, hr1x, hr2x⟩
      · exact (ho.flat_only eop_flat s4 fun j hj => by omega).base (by omega)
      · exact hr.only s4 (by omega) fun j hj => by have := hok j hj; omega
      · exact ⟨s4.os.trans hoo.os, s4.tape.trans hoo.tape, s4.output.trans hoo.output, Nat.le_trans hoo.size s4.size, fun j hj hn => (s4.block j (Nat.lt_of_lt_of_le hj hoo.size) (by have := HB.out; omega)).trans (hoo.block j hj hn)⟩
end Go.Proofs.Ytennjoegjghlaaa

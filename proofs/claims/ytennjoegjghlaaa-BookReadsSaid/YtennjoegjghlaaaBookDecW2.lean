
/-
  What book.Decode computes: all of the bytes.
-/
import Derived.Test.YtennjoegjghlaaaBookDecW
import Derived.Test.YtennjoegjghlaaaMemIn
namespace Go.Proofs.Ytennjoegjghlaaa
open Go.RowKit
set_option linter.unusedVariables false

namespace Bts
/-- between two things of a list -/
def MidP {α : Type} (p : Pr α) (s : St) (k : Nat) (xs : List α) (s' : St) : Prop := match s with
  | .inl l => ∃ t, manyP p k l = .inl (xs, t) ∧ s' = .inl t
  | .inr e => k = 0 ∧ s' = .inr e ∧ xs = []
theorem midP_start {α : Type} (p : Pr α) (s : St) : MidP p s 0 [] s := by
  cases s with
  | inl l => exact ⟨l, rfl, rfl⟩
  | inr e => exact ⟨rfl, rfl, rfl⟩
end Bts
namespace Bk
open Bts
theorem dec_front (l : Bits) (n : BitVec 64) (s1 s2 : St) (hn : n = (runS numP 0#64 (.inl l)).1) (h1 : s1 = (runS numP 0#64 (.inl l)).2) (h2 : s2 = if 400 < n.toNat then failS s1 4 else s1) :
    (∀ e, s2 = .inr e → e ≠ 0 ∧ dec l = ([], e)) ∧ (∀ t, s2 = .inl t → n.toNat ≤ 400 ∧ (∀ es u, manyP evP n.toNat t = .inl (es, u) → dec l = if endS (.inl u) = 0 then (es, 0) else ([], 12)) ∧ (∀ k e, k ≤ n.toNat → manyP evP k t = .inr e → e ≠ 0 ∧ dec l = ([], e))) := by
  cases hp : numP l with
  | inr e =>
    simp only [runS, hp] at hn h1
    subst hn h1
    rw [if_neg (by decide)] at h2
    subst h2
    refine ⟨fun e' h => ?_, (fun t h => by cases h)⟩
    injection h with h
    subst h
    refine ⟨good_num.err _ _ hp, ?_⟩
    simp only [dec, allP, decP, mapP, bindP, filtP, hp]
  | inl z =>
    obtain ⟨m, u⟩ := z
    simp only [runS, hp] at hn h1
    subst hn h1
    by_cases h4 : 400 < n.toNat
    · rw [if_pos h4] at h2
      simp only [failS] at h2
      subst h2
      refine ⟨fun e' h => ?_, (fun t h => by cases h)⟩
      injection h with h
      subst h
      refine ⟨by decide, ?_⟩
      simp only [dec, allP, decP, mapP, bindP, filtP, hp]
      rw [if_neg (by rw [decide_eq_true_eq]; omega)]
    · rw [if_neg h4] at h2
      subst h2
      refine ⟨(fun e' h => by cases h), fun t h => ?_⟩
      injection h with h
      subst h
      refine ⟨by omega, fun es v hm => ?_, fun k e hk hm => ?_⟩
      · simp only [dec, allP, decP, mapP, bindP, filtP, hp]
        rw [if_pos (by rw [decide_eq_true_eq]; omega)]
        simp only [hm]
        by_cases he : endS (.inl v) = 0
        · rw [if_pos he, if_pos he]
        · rw [if_neg he, if_neg he]
      · refine ⟨(good_ev.many k).err _ _ hm, ?_⟩
        have hm' := manyP_err hm hk
        simp only [dec, allP, decP, mapP, bindP, filtP, hp]
        rw [if_pos (by rw [decide_eq_true_eq]; omega)]
        simp only [hm']
theorem end_or (u : Bits) : endS (.inl u) = 0 ∨ endS (.inl u) = 12 := by
  simp only [endS]
  split
  · exact .inr rfl
  · exact .inl rfl
end Bk

/-- what a decoder of histories tells -/
def DecPost (B : Nat) (r : List Bk.Ev × Int) (w : World) (e : Ending) (w' : World) : Prop :=
  ∃ v, e = .returned (.tuple #[v, .int .i64 r.2]) ∧ Own EEv 69 B w' v r.1 ∧ Below B w w'

set_option maxRecDepth 100000 in
set_option maxHeartbeats 3200000 in
theorem book_Decode (B : Nat) (a : Option Addr) (nb c : Nat) (b : List (BitVec 8)) (w : World) (hB : w.heap.size = B) (hr : RB w a nb b) (hl : nb ≤ 1000000) :
    Calls Try.prog 33 #[.slice a nb c] w (DecPost B (Bk.dec (Bts.bitsOf b)) w) := by
  obtain ⟨rfl, hs⟩ := hr
  obtain ⟨D, hD⟩ : ∃ D, D = Bk.dec (Bts.bitsOf b) := ⟨_, rfl⟩
  rw [← hD]
  have HD := Lib.hid hD
  have HB := Lib.hid hB
  clear hD
  go_enter Try.func33, Try.ntmps33
  go_wp2_with fail
  refine (bits_ReadS B a b.length c b _ hB ⟨rfl, hs⟩ (by omega)).mono ?_
  rintro e w1 ⟨g, rfl, hg, hr1, hb1⟩
  clear hB hs
  go_wp2_with fail
  refine (bits_RNumS g b _ _ hr1 (by omega)).mono ?_
  rintro e w2 ⟨rfl, hr2, ho2⟩
  obtain ⟨n, hn⟩ : ∃ z, z = (Bts.runS Bts.numP 0#64 (.inl (Bts.bitsOf b))).1 := ⟨_, rfl⟩
  obtain ⟨s1, hs1⟩ : ∃ z, z = (Bts.runS Bts.numP 0#64 (.inl (Bts.bitsOf b))).2 := ⟨_, rfl⟩
  rw [← hs1] at hr2
  rw [← hn]
  obtain ⟨s2, hs2⟩ : ∃ z, z = if 400 < n.toNat then Bts.failS s1 4 else s1 := ⟨_, rfl⟩
  obtain ⟨f1, f2⟩ := Bk.dec_front _ n s1 s2 hn hs1 hs2
  rw [← HD.out] at f1 f2
  have F1 := Lib.hid f1
  have F2 := Lib.hid f2
  have Hn := Lib.hid hn
  have Hs1 := Lib.hid hs1
  have Hs2 := Lib.hid hs2
  clear f1 f2 hn hs1 hs2
  have hbw2 : Below B w w2 := hb1.trans (ho2.below (Nat.le_of_lt (Nat.lt_of_le_of_lt hg hr1.lt)) fun k hk => by omega)
  clear hr1 ho2 hb1
  obtain ⟨dq, hdq⟩ : ∃ z, decide (400 < bv n) = z := ⟨_, rfl⟩
  go_upto_if 14 with fail
  have Hdq := Lib.hid hdq
  clear hdq
  have hBg2 : g < w2.heap.size := hr2.lt
  go_cut [] (fun wx => RdS (fun k => B ≤ k ∧ k < g) wx g b s2 ∧ Only (· = g) w2 wx)
  case first =>
    cases dq
    · have hz : s2 = s1 := by
        have := of_decide_eq_false Hdq.out
        rw [Hs2.out, if_neg (by unfold bv at this; omega)]
      have Hz := Lib.hid hz
      clear hz
      go_wp2_with fail
      go_meet
      exact ⟨by rw [Hz.out]; exact hr2, Only.refl _ _⟩
    · have hz : s2 = Bts.failS s1 4 := by
        have := of_decide_eq_true Hdq.out
        rw [Hs2.out, if_pos (by unfold bv at this; omega)]
      have Hz := Lib.hid hz
      clear hz
      go_wp2_with fail
      refine (bits_FailS g b s1 4 _ hr2 (by decide) (by decide)).mono ?_
      rintro e w6 ⟨rfl, hr6, ho6⟩
      go_wp2_with fail
      go_meet
      exact ⟨by rw [Hz.out]; exact hr6, ho6⟩
  obtain ⟨hr3, ho3⟩ := hcut
  obtain ⟨w3, hw3⟩ : ∃ z, z = wc := ⟨_, rfl⟩
  subst hw3
  have hbw3 : Below B w w3 := hbw2.trans (ho3.below (by omega) fun k hk => by omega)
  clear hr2 ho3 hbw2 hBg2
  obtain ⟨N, hN⟩ : ∃ N, N = n.toNat := ⟨_, rfl⟩
  have hN64 : N < 18446744073709551616 := by rw [hN]; exact n.isLt
  have HN := Lib.hid hN
  clear hN
  go_wp2_with fail
  go_loopw [6, 18] (fun t6 i wr => ∃ (k : Nat) (v : Value) (es : List Bk.Ev) (st : Bts.St), k ≤ N ∧ k ≤ 400 ∧ t6 = v ∧ i = .int .u64 (bv (BitVec.ofNat 64 k)) ∧ RdS (fun k => B ≤ k ∧ k < g) wr g b st ∧ Own (EIn (g + 1) EEv) 69 (g + 1) wr v es ∧ es.length = k ∧ Below B w wr ∧ Bts.MidP Bk.evP s2 k es st) (fun _ i _ => N - (intOf i).toNat)
  case atStart => exact ⟨0, _, [], s2, Nat.zero_le _, Nat.zero_le _, rfl, rfl, hr3, Own.nil _ _ _ _, rfl, hbw3, Bts.midP_start _ s2⟩
  case round =>
    clear hr3 hbw3
    obtain ⟨k, v, es, st, hk, hk4, rfl, rfl, hr, ho, hol, hb, hmid⟩ := hrel
    obtain ⟨a5, c5, rfl, hkc, hcm, hrs, _⟩ := ho.shape k hol.symm
    have hbk : bv (BitVec.ofNat 64 k) = (k : Int) := by unfold bv; rw [BitVec.toNat_ofNat]; omega
    have hbn : bv n = (N : Int) := by unfold bv; rw [HN.out]
    have Hbk := Lib.hid hbk
    have Hbn := Lib.hid hbn
    have Hmid := Lib.hid hmid
    clear hmid hbk hbn
    have hgr : g < wr.heap.size := hr.lt
    by_cases hlt : k < N
    · have hlt' : bv (BitVec.ofNat 64 k) < bv n := by rw [Hbk.out, Hbn.out]; omega
      go_wp2_with fail
      refine (book_event wr.heap.size g b st _ (by rfl) hr (by omega) (fun j hj => by omega)).mono ?_
      rintro e w4 ⟨x1, x2, v4, ops, st4, rfl, ho4, hr4, hev, hon4, hops, hx1, hx2⟩
      obtain ⟨a4, c4, rfl, hc4, hm4, hrs4, ho4'⟩ := ho4.shape ops.length rfl
      have ho5 : Own (EIn (g + 1) EEv) 69 (g + 1) w4 (.slice a5 k c5) es := ho.in_only hon4 (fun j hj => by omega) (fun j hj => by omega)
      have hbw4 : Below B w w4 := hb.trans (hon4.below (by omega) fun j hj => by omega)
      have hbx : Below w4.heap.size w4 (w4.alloc (.cells #[.int .i64 x1, .int .i64 x2, .slice a4 ops.length c4] 69)) := (Below.refl _ _).alloc (Nat.le_refl _) _
      have hg4 := hr4.lt
      have hr5 := hr4.keep hbx
      have hbw5 := hbw4.trans (hbx.mono (by omega))
      have Hev := Lib.hid hev
      clear hev
      go_wp2_with fail
      refine (bits_ErrS g b st4 _ hr5).mono ?_
      rintro e w7 ⟨rfl, rfl⟩
      cases st4 with
      | inr e =>
        rw [show Bts.errS (.inr e) = e by rfl]
        have he0 := hr4.err e rfl
        have he0' : (e != 0) = true := by simpa using he0
        have hfin : D = ([], e) := by
          have hm := Hmid.out
          have hv := Hev.out
          unfold Bts.MidP at hm
          cases h2 : s2 with
          | inr e' =>
            rw [h2] at hm
            obtain ⟨_, rfl, _⟩ := hm
            have hee : Sum.inr e = Sum.inr (α := Bts.Bits) e' := hv
            injection hee with hee
            rw [hee]
            exact (F1.out e' h2).2
          | inl l =>
            rw [h2] at hm
            obtain ⟨t, h3, rfl⟩ := hm
            have h4 := (F2.out l h2).2.2 (k + 1) e (by have := HN.out; omega)
            simp only [Bk.EvPost] at hv
            cases h5 : Bk.evP t with
            | inl z => rw [h5] at hv; cases hv.2
            | inr k' =>
              rw [h5] at hv
              injection hv with hv
              subst hv
              exact (h4 (Bts.manyP_bad h3 h5)).2
        have Hfin := Lib.hid hfin
        clear hfin he0 ho5 ho4 ho4' hrs hrs4 ho
        go_wp2_with fail
        refine (bits_EndS g b (.inr e) _ hr5 (by omega)).mono ?_
        rintro e5 w9 ⟨rfl, hb9⟩
        rw [show Bts.endS (.inr e) = e by rfl]
        go_wp2_with fail
        refine bodyPost_ret (v := .tuple #[.slice none 0 0, .int .i64 e]) (by simp [results, Try.results33, go_sem]) rfl ?_
        refine ⟨_, by rw [Hfin.out], by rw [Hfin.out]; exact Own.nil _ _ _ _, hbw5.trans (hb9.mono (Nat.le_trans (by omega) hbx.size))⟩
      | inl u =>
        rw [show Bts.errS (.inl u) = 0 by rfl]
        have hk4' : k + 1 ≤ 400 := by
          have hm := Hmid.out
          unfold Bts.MidP at hm
          cases h2 : s2 with
          | inr e' =>
            rw [h2] at hm
            obtain ⟨_, rfl, _⟩ := hm
            cases Hev.out
          | inl l => have := (F2.out l h2).1; have := HN.out; omega
        have hmid' : Bts.MidP Bk.evP s2 (k + 1) (es ++ [(x1, x2, ops)]) (.inl u) := by
          have hm := Hmid.out
          have hv := Hev.out
          unfold Bts.MidP at hm ⊢
          cases h2 : s2 with
          | inr e' =>
            rw [h2] at hm
            obtain ⟨_, rfl, _⟩ := hm
            cases hv
          | inl l =>
            rw [h2] at hm
            obtain ⟨t, h3, rfl⟩ := hm
            simp only [Bk.EvPost] at hv
            cases h5 : Bk.evP t with
            | inr k' => rw [h5] at hv; cases hv
            | inl z =>
              obtain ⟨z1, z2⟩ := z
              rw [h5] at hv
              obtain ⟨rfl, hv2⟩ := hv
              injection hv2 with hv2
              subst hv2
              exact ⟨u, Bts.manyP_ok h3 h5, rfl⟩
        have Hmid' := Lib.hid hmid'
        clear hmid'
        have Hol := Lib.hid hol
        obtain ⟨w5, hw5⟩ : ∃ z, z = w4.alloc (.cells #[.int .i64 x1, .int .i64 x2, .slice a4 ops.length c4] 69) := ⟨_, rfl⟩
        have hh5 : w5.heap[w4.heap.size]? = some (.cells #[.int .i64 x1, .int .i64 x2, .slice a4 ops.length c4] 69 (0, 0)) := by rw [hw5]; exact heap_alloc_new w4 _
        rw [← hw5] at hbx hr5 hbw5 ⊢
        have z0 : w5.cell? ⟨w4.heap.size, 0, none⟩ = some (.int .i64 x1) := by simp [World.cell?, hh5]
        have z1 : w5.cell? ⟨w4.heap.size, 1, none⟩ = some (.int .i64 x2) := by simp [World.cell?, hh5]
        have z2 : w5.cell? ⟨w4.heap.size, 2, none⟩ = some (.slice a4 ops.length c4) := by simp [World.cell?, hh5]
        have hb6 : Below w5.heap.size w5 (w5.alloc (.cells #[.int .i64 x1, .int .i64 x2, .slice a4 ops.length c4] 69)) := (Below.refl _ _).alloc (Nat.le_refl _) _
        have hown6 := (ho5.below hbx).below hb6
        have hnew : ∀ q, wr.heap.size ≤ q → some q ≠ (Value.slice a5 k c5).ownBlock := fun q hq e => by have := (ho.lt q e.symm).2; omega
        have hsl6 : Sl (EIn (g + 1) EEv) (fun b => some b ≠ (Value.slice a5 k c5).ownBlock) (w5.alloc (.cells #[.int .i64 x1, .int .i64 x2, .slice a4 ops.length c4] 69)) (some ⟨w5.heap.size, 0, none⟩) [(x1, x2, ops)] := by
          refine sl_one (heap_alloc_new w5 _) ?_ (hnew _ (by have := hbx.size; have := hon4.size; omega))
          refine ev_mk (by omega) (by omega) hc4 hm4 ?_
          exact ((Own.slO (ho4'.below hbx)).mono (by decide) fun q hq hlt => ⟨heap_alloc_old w5 _ hlt, hnew q hq, by omega⟩)
        have Hnew := Lib.hid hnew
        clear hh5 hw5 hb ho hrs hrs4 ho4 ho4' hol hnew
        go_wp2_with (first
          | (refine wpList_app (EIn (g + 1) EEv) rfl rfl (by rfl) (by rfl) ti_evs hown6 rfl hsl6 (by rw [Hol.out]; unfold maxLen; simp; omega) (by rw [Hol.out]; simp; omega) (by have := hbx.size; simp; omega) ?_
             intro v8 w8 ho8 hg8 hv8 hb8))
        have hnext : bv (BitVec.ofNat 64 k + 1#64) = bv (BitVec.ofNat 64 (k + 1)) := by rw [BitVec.ofNat_add]
        have hbk' : bv (BitVec.ofNat 64 (k + 1)) = ((k + 1 : Nat) : Int) := by unfold bv; rw [BitVec.toNat_ofNat]; omega
        have Hnext := Lib.hid hnext
        have Hbk' := Lib.hid hbk'
        clear hnext hbk'
        go_roundw
        case rel =>
          refine ⟨k + 1, v8, es ++ [(x1, x2, ops)], .inl u, by omega, hk4', rfl, by rw [Hnext.out], ?_, ho8, by simp [Hol.out], ?_, Hmid'.out⟩
          · exact (hr5.keep hb6).only (S := fun j => g + 1 ≤ j) ⟨hb8.os, hb8.tape, hb8.output, hb8.size, fun j hj hn => hb8.block j (by omega)⟩ (by omega) fun j hj => by omega
          · exact (hbw5.trans (hb6.mono (by have := hbx.size; omega))).trans (hb8.mono (by omega))
        case measure =>
          rw [Hnext.out]
          show N - (bv (BitVec.ofNat 64 (k + 1))).toNat < N - (bv (BitVec.ofNat 64 k)).toNat
          rw [Hbk'.out, Hbk.out]
          omega
    · have hlt' : ¬ (bv (BitVec.ofNat 64 k) < bv n) := by rw [Hbk.out, Hbn.out]; omega
      go_wp2_with fail
      refine (bits_EndS g b st _ hr (by omega)).mono ?_
      rintro e w5 ⟨rfl, hb5⟩
      have hbw5 : Below B w w5 := hb.trans (hb5.mono (by omega))
      have hfin : (Bts.endS st = 0 ∧ D = (es, 0)) ∨ (Bts.endS st ≠ 0 ∧ D = ([], Bts.endS st)) := by
        have hm := Hmid.out
        unfold Bts.MidP at hm
        cases h2 : s2 with
        | inr e' =>
          rw [h2] at hm
          obtain ⟨_, rfl, _⟩ := hm
          exact .inr (F1.out e' h2)
        | inl l =>
          rw [h2] at hm
          obtain ⟨t, h3, rfl⟩ := hm
          have h4 := (F2.out l h2).2.1 es t (by rw [← HN.out, show N = k by omega]; exact h3)
          rcases Bk.end_or t with h5 | h5
          · rw [if_pos h5] at h4; exact .inl ⟨h5, h4⟩
          · rw [if_neg (by rw [h5]; decide)] at h4; exact .inr ⟨by rw [h5]; decide, by rw [h5]; exact h4⟩
      have ho9 : Own EEv 69 B w5 (.slice a5 k c5) es := ((ho.of_in).below hb5).base (by omega)
      obtain ⟨z, hz⟩ : ∃ z, z = Bts.endS st := ⟨_, rfl⟩
      rw [← hz] at hfin ⊢
      clear hz hb5 hb
      rcases hfin with ⟨rfl, hd⟩ | ⟨hz0, hd⟩
      · have Hd := Lib.hid hd
        clear hd
        go_wp2_with fail
        refine bodyPost_ret (v := .tuple #[.slice a5 k c5, .int .i64 0]) (by simp [results, Try.results33, go_sem]) rfl ?_
        exact ⟨_, by rw [Hd.out], by rw [Hd.out]; exact ho9, hbw5⟩
      · have hz0' : (z != 0) = true := by simpa using hz0
        have Hd := Lib.hid hd
        clear hd hz0
        go_wp2_with fail
        refine bodyPost_ret (v := .tuple #[.slice none 0 0, .int .i64 z]) (by simp [results, Try.results33, go_sem]) rfl ?_
        exact ⟨_, by rw [Hd.out], by rw [Hd.out]; exact Own.nil _ _ _ _, hbw5⟩
end Go.Proofs.Ytennjoegjghlaaa

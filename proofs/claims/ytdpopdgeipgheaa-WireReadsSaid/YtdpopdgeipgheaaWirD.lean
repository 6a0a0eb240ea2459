
/-
  What the reader of a message's bytes computes.
-/
import Derived.Test.YtdpopdgeipgheaaWir
import Derived.Test.YtdpopdgeipgheaaRdS
namespace Go.Proofs.Ytdpopdgeipgheaa
open Go.RowKit
set_option linter.unusedVariables false

theorem RdS.err {ok : Nat → Prop} {w : World} {g : Nat} {b : List (BitVec 8)} {s : Bts.St} (h : RdS ok w g b s) : ∀ e, s = .inr e → e ≠ 0 := by
  rintro e rfl
  obtain ⟨r, _, h⟩ := h
  exact h.1

def TextPost (ok : Nat → Prop) (B g : Nat) (b : List (BitVec 8)) (s : Bts.St) (w : World) (e : Ending) (w' : World) : Prop :=
  ∃ (v : Value) (t : List (BitVec 8)) (s' : Bts.St), e = .returned v ∧ Own EU8 5 B w' v t ∧ RdS ok w' g b s' ∧ Bts.Go Wi.textP s t s' ∧ Only (· = g) w w' ∧ t.length ≤ 4000

theorem eu8_flat {ok ok' : Nat → Prop} {w w' : World} {cs : List Value} {x : BitVec 8} (h : EU8.rep ok w cs x) : EU8.rep ok' w' cs x := h
theorem Own.only8 {te : TypeId} {base : Nat} {w w' : World} {v : Value} {l : List (BitVec 8)} {S : Nat → Prop} (h : Own EU8 te base w v l) (ho : Only S w w') (hS : ∀ k, S k → k < base) : Own EU8 te base w' v l := by
  rcases h with h | ⟨g, cap, cur, hv, hg, hh, h1, h2, h3, h4⟩
  · exact .inl h
  · refine .inr ⟨g, cap, cur, hv, hg, by rw [ho.block g (Array.getElem?_eq_some_iff.1 hh).1 (fun hs => by have := hS g hs; omega)]; exact hh, h1, h2, h3, fun k y hk => ?_⟩
    obtain ⟨cs, hr, hc⟩ := h4 k y hk
    exact ⟨cs, hr, hc⟩

set_option maxRecDepth 100000 in
set_option maxHeartbeats 3200000 in
theorem wire_text {ok : Nat → Prop} (B g : Nat) (b : List (BitVec 8)) (s : Bts.St) (w : World) (hB : w.heap.size = B) (hr : RdS ok w g b s) (hl : b.length ≤ 1099511627776) (hok : ∀ k, ok k → k < B) :
    Calls Try.prog 33 #[.pointer (some ⟨g, 0, none⟩)] w (TextPost ok B g b s w) := by
  have hgB : g < B := by rw [← hB]; exact hr.lt
  have h0 := hr.err
  have HB := Lib.hid hB
  have Hok := Lib.hid hok
  clear hB hok
  go_enter Try.func33, Try.ntmps33
  go_wp2_with fail
  refine (bits_RNumS g b s _ hr hl).mono ?_
  rintro e w2 ⟨rfl, hr2, ho2⟩
  have hg1 := Bts.go_run Bts.numP 0#64 s
  obtain ⟨n, hn⟩ : ∃ z, z = (Bts.runS Bts.numP 0#64 s).1 := ⟨_, rfl⟩
  obtain ⟨s1, hs1⟩ : ∃ z, z = (Bts.runS Bts.numP 0#64 s).2 := ⟨_, rfl⟩
  rw [← hs1] at hr2 hg1
  rw [← hn] at hg1 ⊢
  have hg2 := Bts.go_filt (fun n => decide (n.toNat ≤ 4000)) 3 hg1
  obtain ⟨s2, hs2⟩ : ∃ z, z = if decide (n.toNat ≤ 4000) = true then s1 else Bts.failS s1 3 := ⟨_, rfl⟩
  rw [← hs2] at hg2
  have Hs2 := Lib.hid hs2
  have Hg2 := Lib.hid hg2
  clear hn hs1 hs2 hg1 hg2 h0
  obtain ⟨dq, hdq⟩ : ∃ z, decide (4000 < bv n) = z := ⟨_, rfl⟩
  go_upto_if 9 with fail
  have Hdq := Lib.hid hdq
  clear hdq
  go_cut [] (fun wx => RdS ok wx g b s2 ∧ Only (· = g) w2 wx)
  case first =>
    cases dq
    · have hz : s2 = s1 := by
        have := of_decide_eq_false Hdq.out
        rw [Hs2.out, if_pos (by unfold bv at this; rw [decide_eq_true_eq]; omega)]
      have Hz := Lib.hid hz
      clear hz
      go_wp2_with fail
      go_meet
      exact ⟨by rw [Hz.out]; exact hr2, Only.refl _ _⟩
    · have hz : s2 = Bts.failS s1 3 := by
        have := of_decide_eq_true Hdq.out
        rw [Hs2.out, if_neg (by unfold bv at this; rw [decide_eq_true_eq]; omega)]
      have Hz := Lib.hid hz
      clear hz
      go_wp2_with fail
      refine (bits_FailS g b s1 3 _ hr2 (by decide) (by decide)).mono ?_
      rintro e w6 ⟨rfl, hr6, ho6⟩
      go_wp2_with fail
      go_meet
      exact ⟨by rw [Hz.out]; exact hr6, ho6⟩
  obtain ⟨hr3, ho3⟩ := hcut
  obtain ⟨w3, hw3⟩ : ∃ z, z = wc := ⟨_, rfl⟩
  subst hw3
  have ho3' : Only (· = g) w w3 := ho2.trans ho3 fun _ _ h => h
  clear hr2 ho2 ho3
  have hbig : ∀ u : Bts.Bits, s2 = .inl u → n.toNat ≤ 4000 := by
    intro u hu
    rw [Hs2.out] at hu
    split at hu
    · rename_i h; simpa using h
    · cases s1 <;> cases hu
  have Hbig := Lib.hid hbig
  obtain ⟨N, hN⟩ : ∃ N, N = n.toNat := ⟨_, rfl⟩
  have hN64 : N < 18446744073709551616 := by rw [hN]; exact n.isLt
  have HN := Lib.hid hN
  have Hst := Lib.hid (Bts.loop_start Wi.byteP N s2)
  clear hbig hN
  go_wp2_with fail
  go_loopw [4, 5] (fun t4 i wr => ∃ (k : Nat) (v : Value) (t : List (BitVec 8)) (st : Bts.St), k ≤ N ∧ k ≤ 4000 ∧ t4 = v ∧ i = .int .u64 (bv (BitVec.ofNat 64 k)) ∧ RdS ok wr g b st ∧ Own EU8 5 B wr v t ∧ t.length = k ∧ Only (· = g) w wr ∧ Bts.LoopP Wi.byteP N s2 k t st) (fun _ i _ => N - (intOf i).toNat)
  case atStart => exact ⟨0, _, [], s2, Nat.zero_le _, Nat.zero_le _, rfl, rfl, hr3, Own.nil _ _ _ _, rfl, ho3', Hst.out⟩
  case round =>
    clear hr3 ho3'
    obtain ⟨k, v, t, st, hk, hk4, rfl, rfl, hr, ho, htl, hoo, hmid⟩ := hrel
    obtain ⟨a5, c5, rfl, hkc, hcm, hrs, _⟩ := ho.shape k htl.symm
    have hbk : bv (BitVec.ofNat 64 k) = (k : Int) := by unfold bv; rw [BitVec.toNat_ofNat]; omega
    have hbn : bv n = (N : Int) := by unfold bv; rw [HN.out]
    have Hbk := Lib.hid hbk
    have Hbn := Lib.hid hbn
    have Hmid := Lib.hid hmid
    have Hoo := Lib.hid hoo
    have hsz : B ≤ wr.heap.size := by have := hoo.size; rw [HB.out] at this; exact this
    clear hmid hbk hbn hoo hrs
    have hfin : (k = N ∨ ∃ e, st = .inr e) → Bts.Go Wi.textP s t st := fun h => by
      have h1 := Bts.loop_end Hmid.out h
      rw [HN.out] at h1
      exact Bts.go_map _ (Bts.go_bind Hg2.out h1)
    have Hfin := Lib.hid hfin
    clear hfin
    by_cases hlt : k < N
    · have hlt' : bv (BitVec.ofNat 64 k) < bv n := by rw [Hbk.out, Hbn.out]; omega
      go_wp2_with fail
      refine (bits_ErrS g b st _ hr).mono ?_
      rintro e w7 ⟨rfl, rfl⟩
      cases st with
      | inr e =>
        have he0 := hr.err e rfl
        have he0' : (e == 0) = false := by simpa using he0
        rw [show Bts.errS (.inr e) = e by rfl]
        clear he0
        go_wp2_with fail
        go_ret
        exact ⟨_, t, .inr e, rfl, ho, hr, Hfin.out (.inr ⟨e, rfl⟩), Hoo.out, by omega⟩
      | inl u =>
        rw [show Bts.errS (.inl u) = 0 by rfl]
        have hN4 : N ≤ 4000 := by
          have hm := Hmid.out
          unfold Bts.LoopP at hm
          cases h2 : s2 with
          | inr e' => rw [h2] at hm; cases hm
          | inl l => rw [HN.out]; exact Hbig.out l h2
        go_wp2_with fail
        refine (bits_GetS g b (.inl u) 8 8 _ hr hl (by rfl) (by decide)).mono ?_
        rintro e w8 ⟨rfl, hr8, ho8⟩
        have hg3 := Bts.go_map (fun v : BitVec 64 => v.setWidth 8) (Bts.go_run (Bts.getP 8) 0#64 (.inl u))
        obtain ⟨y, hy⟩ : ∃ z, z = (Bts.runS (Bts.getP 8) 0#64 (.inl u)).1 := ⟨_, rfl⟩
        obtain ⟨st1, hst1⟩ : ∃ z, z = (Bts.runS (Bts.getP 8) 0#64 (.inl u)).2 := ⟨_, rfl⟩
        rw [← hst1] at hr8 hg3
        rw [← hy] at hg3 ⊢
        have hmid' := Bts.loop_step Hmid.out hlt hg3
        have Hmid' := Lib.hid hmid'
        have ho5 : Own EU8 5 B w8 (.slice a5 k c5) t := ho.only8 ho8 fun j hj => by omega
        have hb9 : Below w8.heap.size w8 (w8.alloc (.cells #[.int .u8 (bv (y.setWidth 8))] 5)) := (Below.refl _ _).alloc (Nat.le_refl _) _
        have ho9 := ho5.below hb9
        have hsl9 : Sl EU8 (fun b => some b ≠ (Value.slice a5 k c5).ownBlock) (w8.alloc (.cells #[.int .u8 (bv (y.setWidth 8))] 5)) (some ⟨w8.heap.size, 0, none⟩) [y.setWidth 8] :=
          sl_one (heap_alloc_new w8 _) rfl ho5.fresh
        have Htl := Lib.hid htl
        have Ho8 := Lib.hid ho8
        have hs8 : B ≤ w8.heap.size := Nat.le_trans hsz ho8.size
        clear hy hst1 hg3 hmid' ho htl ho8
        go_wp2_with (first
          | (refine wpList_app EU8 rfl rfl (by rfl) (by rfl) ti_bytes ho9 rfl hsl9 (by rw [Htl.out]; unfold maxLen; simp; omega) (by rw [Htl.out]; simp; omega) (by simp; omega) ?_
             intro v10 w10 ho10 hg10 hv10 hb10))
        have hnext : bv (BitVec.ofNat 64 k + 1#64) = bv (BitVec.ofNat 64 (k + 1)) := by rw [BitVec.ofNat_add]
        have hbk' : bv (BitVec.ofNat 64 (k + 1)) = ((k + 1 : Nat) : Int) := by unfold bv; rw [BitVec.toNat_ofNat]; omega
        have Hnext := Lib.hid hnext
        have Hbk' := Lib.hid hbk'
        clear hnext hbk'
        have hO10 : Only (fun j => B ≤ j) w8 w10 := (Below.only (S := fun j => B ≤ j) hb9).trans (T := fun j => B ≤ j) ⟨hb10.os, hb10.tape, hb10.output, hb10.size, fun j hj hn => hb10.block j (by omega)⟩ fun _ _ h => h
        have HO10 := Lib.hid hO10
        clear hO10
        go_roundw
        case rel =>
          refine ⟨k + 1, v10, t ++ [y.setWidth 8], st1, by omega, by omega, rfl, by rw [Hnext.out], hr8.only HO10.out (by omega) (fun j hj => by have := Hok.out j hj; omega), ho10, by simp [Htl.out], ?_, Hmid'.out⟩
          have h1 := Hoo.out.trans Ho8.out fun _ _ h => h
          exact h1.trans HO10.out fun j hj h => absurd h (by have := HB.out; omega)
        case measure =>
          rw [Hnext.out]
          show N - (bv (BitVec.ofNat 64 (k + 1))).toNat < N - (bv (BitVec.ofNat 64 k)).toNat
          rw [Hbk'.out, Hbk.out]
          omega
    · have hlt' : ¬ (bv (BitVec.ofNat 64 k) < bv n) := by rw [Hbk.out, Hbn.out]; omega
      go_wp2_with fail
      go_ret
      exact ⟨_, t, st, rfl, ho, hr, Hfin.out (.inl (by omega)), Hoo.out, by omega⟩
end Go.Proofs.Ytdpopdgeipgheaa

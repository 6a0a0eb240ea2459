
/-
  What the document's own reader of messages computes.
-/
import Derived.Test.YtdpopdgeipgheaaWirS
import Derived.Test.YtdpopdgeipgheaaRefP
import Derived.Test.YtdpopdgeipgheaaMemIn
namespace Go.Proofs.Ytdpopdgeipgheaa
open Go.RowKit
set_option linter.unusedVariables false

namespace Wi
open Bts
theorem read_inr {l : Bits} {e : Int} (h : insP l = .inr e) : read l = (zeroI, e) := by
  unfold read allP
  rw [h]
theorem ins_err1 {l : Bits} {j : Nat} {ys : List Int} {t : Bits} {e : Int} (h : manyP fieldP j l = .inl (ys, t)) (hj : j < 9) (he : fieldP t = .inr e) : read l = (zeroI, e) := by
  apply read_inr
  simp only [insP, mapP, bindP, manyP_err (manyP_bad h he) hj]
theorem ins_err2 {l : Bits} {ys : List Int} {t : Bits} {e : Int} (h : manyP fieldP 9 l = .inl (ys, t)) (he : filtP (fun n => decide (n.toNat ≤ 2000)) 4 numP t = .inr e) : read l = (zeroI, e) := by
  apply read_inr
  simp only [insP, mapP, bindP, h, he]
theorem ins_err3 {l : Bits} {ys : List Int} {t u v : Bits} {n : BitVec 64} {k : Nat} {us : List Bytes} {e : Int} (h : manyP fieldP 9 l = .inl (ys, t)) (hn : filtP (fun n => decide (n.toNat ≤ 2000)) 4 numP t = .inl (n, u)) (hk : manyP textP k u = .inl (us, v)) (hkn : k ≤ n.toNat) (he : textP v = .inr e) : read l = (zeroI, e) := by
  apply read_inr
  rcases Nat.lt_or_ge k n.toNat with h1 | h1
  · simp only [insP, mapP, bindP, h, hn, manyP_err (manyP_bad hk he) h1]
  · obtain rfl : k = n.toNat := by omega
    simp only [insP, mapP, bindP, h, hn, hk, he]
theorem ins_ok {l : Bits} {ys : List Int} {t u v : Bits} {n : BitVec 64} {us : List Bytes} {d : Bytes} (h : manyP fieldP 9 l = .inl (ys, t)) (hn : filtP (fun n => decide (n.toNat ≤ 2000)) 4 numP t = .inl (n, u)) (hk : manyP textP (n.toNat + 1) u = .inl (us, v)) (hd : us[n.toNat]? = some d) :
    read l = if 7 < v.length ∨ v.any id = true then (zeroI, 12) else ((ys, us.take n.toNat, d), 0) := by
  have h1 : ∃ ts y w, manyP textP n.toNat u = .inl (ts, w) ∧ textP w = .inl (y, v) ∧ us = ts ++ [y] := by
    simp only [manyP] at hk
    cases h2 : manyP textP n.toNat u with
    | inr e => rw [h2] at hk; cases hk
    | inl z =>
      rw [h2] at hk
      simp only at hk
      cases h3 : textP z.2 with
      | inr e => rw [h3] at hk; cases hk
      | inl y =>
        rw [h3] at hk
        simp only [Sum.inl.injEq, Prod.mk.injEq] at hk
        obtain ⟨rfl, rfl⟩ := hk
        exact ⟨z.1, y.1, z.2, rfl, h3, rfl⟩
  obtain ⟨ts, y, w, a1, a2, rfl⟩ := h1
  have hl := manyP_len _ a1
  have e1 : (ts ++ [y]).take n.toNat = ts := by rw [← hl]; simp
  have e2 : d = y := by
    rw [← hl, List.getElem?_append_right (Nat.le_refl _), Nat.sub_self] at hd
    simp at hd; exact hd.symm
  subst e2
  rw [e1]
  unfold read allP
  simp only [insP, mapP, bindP, h, hn, a1, a2]
  by_cases hv : 7 < v.length ∨ v.any id = true
  · have h0 : endS (.inl v) = 12 := by simp only [endS]; rw [if_pos hv]
    rw [if_neg (by rw [h0]; decide), if_pos hv]
  · have h0 : endS (.inl v) = 0 := by simp only [endS]; rw [if_neg hv]
    rw [if_pos h0, if_neg hv]
theorem field_err {t : Bits} {e : Int} (h : numP t = .inr e) : fieldP t = .inr e := by simp only [fieldP, mapP, filtP, h]
theorem field_big {t u : Bits} {x : BitVec 64} (h : numP t = .inl (x, u)) (hx : 1099511627776 < x.toNat) : fieldP t = .inr 1 := by
  simp only [fieldP, mapP, filtP, h]; rw [if_neg (by rw [decide_eq_true_eq]; omega)]
theorem field_ok {t u : Bits} {x : BitVec 64} (h : numP t = .inl (x, u)) (hx : x.toNat ≤ 1099511627776) : fieldP t = .inl ((x.toNat : Int), u) := by
  simp only [fieldP, mapP, filtP, h]; rw [if_pos (by rw [decide_eq_true_eq]; omega)]
theorem count_err {t : Bits} {e : Int} (h : numP t = .inr e) : filtP (fun n => decide (n.toNat ≤ 2000)) 4 numP t = .inr e := by simp only [filtP, h]
theorem count_big {t u : Bits} {x : BitVec 64} (h : numP t = .inl (x, u)) (hx : 2000 < x.toNat) : filtP (fun n => decide (n.toNat ≤ 2000)) 4 numP t = .inr 4 := by
  simp only [filtP, h]; rw [if_neg (by rw [decide_eq_true_eq]; omega)]
theorem count_ok {t u : Bits} {x : BitVec 64} (h : numP t = .inl (x, u)) (hx : x.toNat ≤ 2000) : filtP (fun n => decide (n.toNat ≤ 2000)) 4 numP t = .inl (x, u) := by
  simp only [filtP, h]; rw [if_pos (by rw [decide_eq_true_eq]; omega)]
theorem text_err {t : Bits} {e : Int} (h : numP t = .inr e) : textP t = .inr e := by simp only [textP, mapP, bindP, filtP, h]
theorem text_big {t u : Bits} {x : BitVec 64} (h : numP t = .inl (x, u)) (hx : 4000 < x.toNat) : textP t = .inr 3 := by
  simp only [textP, mapP, bindP, filtP, h]; rw [if_neg (by rw [decide_eq_true_eq]; omega)]
theorem text_short {t u : Bits} {x : BitVec 64} (h : numP t = .inl (x, u)) (hx : x.toNat ≤ 4000) (hl : u.length < 8 * x.toNat) : textP t = .inr 10 := by
  simp only [textP, mapP, bindP, filtP, h]; rw [if_pos (by rw [decide_eq_true_eq]; omega)]
  simp only [(many_bytes (p := byteP) rfl u x.toNat).1 hl]
theorem text_ok {t u : Bits} {x : BitVec 64} (h : numP t = .inl (x, u)) (hx : x.toNat ≤ 4000) (hl : 8 * x.toNat ≤ u.length) : textP t = .inl (pack (u.take (8 * x.toNat)), u.drop (8 * x.toNat)) := by
  simp only [textP, mapP, bindP, filtP, h]; rw [if_pos (by rw [decide_eq_true_eq]; omega)]
  simp only [(many_bytes (p := byteP) rfl u x.toNat).2 hl]
end Wi

/-- what stands ahead of i in a slice of bits -/
theorem cutH {ok : Nat → Prop} {w : World} {a : Option Addr} {n c : Nat} {t : Bts.Bits} (hn : n = t.length) (h : Sl EU8 ok w a (Bts.asB t)) (i : Nat) (hi : i ≤ n) (hc : n ≤ c) :
    ∃ a', (∀ W : World, (Instr.slice 23 (.slice a n c) none (some (.int .i64 (i : Int))) none).run Try.prog W = .ok (.slice a' i c) W) ∧ Sl EU8 ok w a' (Bts.asB (t.take i)) := by
  have hl : n = (Bts.asB t).length := by rw [Bts.asB_len]; exact hn
  refine ⟨if c = 0 then a else a.map (·.add (0 * 1)), ?_, ?_⟩
  · obtain ⟨i0, z, hi0, hz, hsz, hby, hzc⟩ := (ti_bytes).info
    intro W
    have e3 : (i : Int) ≤ (c : Int) := by omega
    simp [Instr.slice, run_underlying (ti_bytes).under, Instr.sliceBounds, run_sliceBound, sizeOf, typeInfo, hi0, e3]
  · have := h.cut (c := c) (i := 0) (j := i) (Nat.zero_le _) (by omega) (by omega) (decide (c = 0)) (by simp; omega)
    simp only [decide_eq_true_eq, List.drop_zero, Nat.sub_zero] at this
    have e : (Bts.asB t).take i = Bts.asB (t.take i) := by simp [Bts.asB]
    rw [e] at this
    exact this

abbrev refRow (ys : List Int) : Array Value := refCells ys none 0 0 none 0 0
theorem refRow_set (ys : List Int) (y : Int) (h : ys.length < 9) : (refRow ys).setIfInBounds ys.length (.int .i64 y) = refRow (ys ++ [y]) := by
  obtain ⟨n, hn⟩ : ∃ n, n = ys.length := ⟨_, rfl⟩
  rw [← hn] at h ⊢
  have e : n = 0 ∨ n = 1 ∨ n = 2 ∨ n = 3 ∨ n = 4 ∨ n = 5 ∨ n = 6 ∨ n = 7 ∨ n = 8 := by omega
  unfold refRow refCells
  simp only [Wi.nth_snoc, ← hn]
  rcases e with rfl | rfl | rfl | rfl | rfl | rfl | rfl | rfl | rfl <;> rfl
theorem refCells_num (xs : List Int) (aL : Option Addr) (nL cL : Nat) (aD : Option Addr) (nD cD : Nat) (j : Nat) (h : j < 9) : (refCells xs aL nL cL aD nD cD)[j]? = some (.int .i64 (Wi.nth xs j)) := by
  have e : j = 0 ∨ j = 1 ∨ j = 2 ∨ j = 3 ∨ j = 4 ∨ j = 5 ∨ j = 6 ∨ j = 7 ∨ j = 8 := by omega
  rcases e with rfl | rfl | rfl | rfl | rfl | rfl | rfl | rfl | rfl <;> rfl

/-- what the document's reader tells -/
def RefPost (B : Nat) (r : Wi.Ins × Int) (w : World) (e : Ending) (w' : World) : Prop :=
  ∃ aL cL aD cD, e = .returned (.tuple #[.agg (refCells r.1.1 aL r.1.2.1.length cL aD r.1.2.2.length cD), .int .i64 r.2]) ∧ r.1.2.1.length ≤ cL ∧ cL ≤ maxLen ∧ Sl EBytes (fun b => B ≤ b) w' aL r.1.2.1 ∧
    r.1.2.2.length ≤ cD ∧ cD ≤ maxLen ∧ Sl EU8 (fun b => B ≤ b) w' aD r.1.2.2 ∧ Below B w w'

set_option maxRecDepth 100000 in
set_option maxHeartbeats 3200000 in
theorem ref15_Read (B : Nat) (a : Option Addr) (nb c : Nat) (b : List (BitVec 8)) (w : World) (hB : w.heap.size = B) (hr : RB w a nb b) (hl : nb ≤ 100000) :
    Calls Try.prog 16 #[.slice a nb c] w (RefPost B (Wi.read (Bts.bitsOf b)) w) := by
  obtain ⟨R, hR⟩ : ∃ R, R = Wi.read (Bts.bitsOf b) := ⟨_, rfl⟩
  rw [← hR]
  have hbl : (Bts.bitsOf b).length = 8 * nb := by rw [Bts.bitsOf_len, hr.1]
  obtain ⟨w1, hw1⟩ : ∃ x, x = w.alloc (.cells (refRow []) 35) := ⟨_, rfl⟩
  have hh1 : w1.heap[B]? = some (.cells (refRow []) 35 (0, 0)) := by subst hw1; subst hB; exact heap_alloc_new w _
  have hb1 : Below B w w1 := by subst hw1; subst hB; exact (Below.refl _ _).alloc (Nat.le_refl _) _
  have hn1 : w1.heap.size = B + 1 := by subst hw1; subst hB; simp
  have hr1 : RB w1 a nb b := ⟨hr.1, hr.2.below (by decide) (by rw [hB]; exact hb1)⟩
  have HR := Lib.hid hR
  have HB := Lib.hid hB
  have hbad : ∀ (wx : World) (T : Array Value) (e : Int), wx.heap[B]? = some (.cells (refRow []) 35 (0, 0)) → Below B w wx → R = (Wi.zeroI, e) → T.getD 2 undef = .pointer (some ⟨B, 0, none⟩) → T.getD 3 undef = .int .i64 e →
      bodyPost Try.prog Try.f16 (RefPost B R w) Exit.ret { tmps := T, defers := [] } wx := by
    intro wx T e hx hb hr h2 h3
    refine bodyPost_ret (v := .tuple #[.agg (refRow []), .int .i64 e]) ?_ rfl ?_
    · rw [results_cell2 (P := Try.prog) Try.results16 T _ B 35 (refRow []) (0, 0) _ h2 hx Try.underlying35 rfl (ref_size _ _ _ _ _ _ _), h3]
    · rw [hr]
      exact ⟨none, 0, none, 0, rfl, Nat.le_refl _, Nat.zero_le _, Sl.nil _ _ _ _, Nat.le_refl _, Nat.zero_le _, Sl.nil _ _ _ _, hb⟩
  have Hbad := Lib.hid hbad
  have Hw1 := Lib.hid hw1
  have Hh1 := Lib.hid hh1
  clear hr hbad hR hw1 hh1
  go_enter Try.func16, Try.ntmps16
  go_upto_region 1 with fail
  have hex : w.alloc (.cells #[.int .i64 0, .int .i64 0, .int .i64 0, .int .i64 0, .int .i64 0, .int .i64 0, .int .i64 0, .int .i64 0, .int .i64 0, .slice none 0 0, .slice none 0 0] 35) = w1 := Hw1.out.symm
  rw [hex]
  clear hex hB
  go_wp2_with fail
  refine (ref_Bits a nb c b (B + 1) _ hn1 hr1 (by omega)).mono ?_
  rintro e w2 ⟨v2, rfl, ho2, hb2⟩
  obtain ⟨l, hll⟩ : ∃ l, l = Bts.bitsOf b := ⟨_, rfl⟩
  rw [← hll] at ho2 hbl
  obtain ⟨a2, c2, rfl, hc2, hm2, hr2, ho2'⟩ := ho2.shape l.length (by rw [Bts.asB_len])
  obtain ⟨M, hM⟩ : ∃ M, M = w2.heap.size := ⟨_, rfl⟩
  have hBM : B + 1 ≤ M := by rw [hM]; have := hb2.size; omega
  have hs2 : Sl EU8 (fun k => B + 1 ≤ k ∧ k < M) w2 a2 (Bts.asB l) := ho2'.slB.mono (by decide) fun k hk hlt => ⟨rfl, hk, by rw [hM]; exact hlt⟩
  obtain ⟨w3, hw3⟩ : ∃ x, x = w2.alloc (.cells (refRow []) 35) := ⟨_, rfl⟩
  have hb3 : Below M w2 w3 := by subst hw3; subst hM; exact (Below.refl _ _).alloc (Nat.le_refl _) _
  have hh3 : w3.heap[M]? = some (.cells (refRow []) 35 (0, 0)) := by subst hw3; subst hM; exact heap_alloc_new w2 _
  have hn3 : w3.heap.size = M + 1 := by subst hw3; subst hM; simp
  have hhB3 : w3.heap[B]? = some (.cells (refRow []) 35 (0, 0)) := by rw [hb3.block B (by omega), hb2.block B (by omega)]; exact Hh1.out
  have hbw3 : Below B w w3 := (hb1.trans (hb2.mono (by omega))).trans (hb3.mono (by omega))
  have hs3 : Sl EU8 (fun k => B + 1 ≤ k ∧ k < M) w3 a2 (Bts.asB l) := hs2.below (by decide) (by rw [← hM]; exact hb3)
  have HM := Lib.hid hM
  have Hw3 := Lib.hid hw3
  have Hll := Lib.hid hll
  have HhB3 := Lib.hid hhB3
  have hl8 : l.length ≤ 800000 := by omega
  clear ho2 ho2' hr2 hs2 hw3 hM hll hhB3 hb3 hb2 hb1 hr1 hbl hn1
  go_upto_region 3 with fail
  have hex : w2.alloc (.cells #[.int .i64 0, .int .i64 0, .int .i64 0, .int .i64 0, .int .i64 0, .int .i64 0, .int .i64 0, .int .i64 0, .int .i64 0, .slice none 0 0, .slice none 0 0] 35) = w3 := Hw3.out.symm
  rw [hex, ← HM.out]
  clear hex
  go_wp2_with fail
  go_loopw [4, 23] (fun t4 i wr => ∃ (j : Nat) (ys : List Int) (t : Bts.Bits) (a4 : Option Addr) (c4 : Nat), t4 = .slice a4 t.length c4 ∧ t.length ≤ c4 ∧ t.length ≤ 800000 ∧ i = .int .i64 j ∧ j ≤ 9 ∧ ys.length = j ∧ Sl EU8 (fun k => B + 1 ≤ k ∧ k < M) wr a4 (Bts.asB t) ∧
    wr.heap[M]? = some (.cells (refRow ys) 35 (0, 0)) ∧ Only (· = M) w3 wr ∧ Bts.manyP Wi.fieldP j l = .inl (ys, t)) (fun _ i _ => 9 - (intOf i).toNat)
  case atStart => exact ⟨0, [], l, a2, c2, rfl, hc2, hl8, rfl, Nat.zero_le _, rfl, hs3, hh3, Only.refl _ _, rfl⟩
  case round =>
    clear hs3 hh3
    obtain ⟨j, ys, t, a4, c4, rfl, htc, ht8, rfl, hj, hyl, hs, hh, ho, hmany⟩ := hrel
    obtain ⟨wo, hwo⟩ : ∃ z, z = wr := ⟨_, rfl⟩
    subst hwo
    have Hmany := Lib.hid hmany
    have hsz : M + 1 ≤ wo.heap.size := by have := ho.size; omega
    have hbo : Below B w wo := hbw3.trans (ho.below (by omega) fun q hq => by omega)
    have HhB := Lib.hid (show wo.heap[B]? = some (.cells (refRow []) 35 (0, 0)) by rw [ho.block B (by omega) (by omega)]; exact HhB3.out)
    have Ho := Lib.hid ho
    have Hh := Lib.hid hh
    clear hmany ho hh
    obtain ⟨x, m, f, hnf⟩ : ∃ n m f, Bts.numF t = (n, m, f) := ⟨_, _, _, rfl⟩
    have Hnf := Lib.hid hnf
    clear hnf
    by_cases hlt : j < 9
    · have hji : (j : Int) < 9 := by omega
      have hj0 : (0 : Int) ≤ (j : Int) := by omega
      go_wp2_with fail
      refine (ref_ReadNum a4 t.length c4 t _ ⟨by rw [Bts.asB_len], hs.any (by decide)⟩ htc (by omega)).mono ?_
      rw [Hnf.out]
      rintro e w5 ⟨rfl, rfl⟩
      dsimp only
      by_cases hf : ¬ f = 0
      · have hd := Wi.ins_err1 Hmany.out hlt (Wi.field_err (Bts.numF_bad Hnf.out hf))
        have Hd := Lib.hid (show R = (Wi.zeroI, f) by rw [HR.out, ← Hll.out]; exact hd)
        have hf' : (f != 0) = true := by simpa using hf
        clear hd hf
        go_wp2_with (first | (refine wpList_storeRow rfl _ _ _ rfl B rfl (refRow []) (refRow []) rfl _ HhB.out (ref_size _ _ _ _ _ _ _) rfl (ref_one _ _ _ _ _ _ _) ?_))
        exact Hbad.out _ _ f (setRow_at HhB.out) (hbo.trans (setRow_below _ (by omega) (Nat.le_refl _))) Hd.out rfl rfl
      obtain rfl : f = 0 := Decidable.not_not.1 hf
      obtain ⟨hm, hp⟩ := Bts.numF_ok Hnf.out
      clear hf
      by_cases hx : 1099511627776 < x.toNat
      · have hd := Wi.ins_err1 Hmany.out hlt (Wi.field_big hp hx)
        have Hd := Lib.hid (show R = (Wi.zeroI, 1) by rw [HR.out, ← Hll.out]; exact hd)
        have hx' : 1099511627776 < bv x := by unfold bv; omega
        clear hd hp hx
        go_wp2_with (first | (refine wpList_storeRow rfl _ _ _ rfl B rfl (refRow []) (refRow []) rfl _ HhB.out (ref_size _ _ _ _ _ _ _) rfl (ref_one _ _ _ _ _ _ _) ?_))
        exact Hbad.out _ _ 1 (setRow_at HhB.out) (hbo.trans (setRow_below _ (by omega) (Nat.le_refl _))) Hd.out rfl rfl
      have hx' : ¬ (1099511627776 < bv x) := by unfold bv; omega
      have hmk := Bts.manyP_ok Hmany.out (Wi.field_ok hp (by omega))
      obtain ⟨y, hy⟩ : ∃ y, y = (x.toNat : Int) := ⟨_, rfl⟩
      have hyx : x.toInt = y := by rw [hy, BitVec.toInt_eq_toNat_cond, if_pos (by omega)]
      rw [← hy] at hmk
      have Hmk := Lib.hid hmk
      obtain ⟨a5, hcut5, hs5, hn5⟩ := cutS rfl hs m hm htc
      have hcell : wo.cell? ⟨M, j, none⟩ = some (.int .i64 (Wi.nth ys j)) := by simp [World.cell?, Hh.out, refCells_num _ _ _ _ _ _ _ _ hlt]
      have hfro : wo.frozen? ⟨M, j, none⟩ = false := by simp [World.frozen?, Hh.out]
      have Hs5 := Lib.hid hs5
      have Hn5 := Lib.hid hn5
      have hmi : (m : Int) ≤ (t.length : Int) := by omega
      clear hmk hp hx hy hs hs5 hn5
      go_wp2_with fail
      have hM9 := heap_set Hh.out j (.int .i64 y)
      rw [← hyl, refRow_set ys y (by omega), hyl] at hM9
      have HM9 := Lib.hid hM9
      have h89 : Only (· = M) wo (wo.setCell ⟨M, j, none⟩ (.int .i64 y)) := Only.setCell (S := (· = M)) (Only.refl _ _) (p := ⟨M, j, none⟩) (.inl rfl) _
      have H89 := Lib.hid h89
      clear hM9 h89
      go_roundw
      case rel =>
        refine ⟨j + 1, ys ++ [y], t.drop m, a5, c4 - m, by rw [Hn5.out], by rw [← Hn5.out]; omega, by rw [← Hn5.out]; omega, by go_num, by omega, by simp [hyl], ?_, HM9.out, Ho.out.trans H89.out fun _ _ h => h, Hmk.out⟩
        exact Hs5.out.only (by decide) H89.out fun k hk => by omega
      case measure => simp [intOf]; omega
    · have hji : ¬ ((j : Int) < 9) := by omega
      have hj9 : j = 9 := by omega
      subst hj9
      clear hlt hj
      have hyl9 : ys.length = 9 := hyl
      go_wp2_with fail
      refine (ref_ReadNum a4 t.length c4 t _ ⟨by rw [Bts.asB_len], hs.any (by decide)⟩ htc (by omega)).mono ?_
      rw [Hnf.out]
      rintro e w5 ⟨rfl, rfl⟩
      dsimp only
      by_cases hf : ¬ f = 0
      · have hd := Wi.ins_err2 Hmany.out (Wi.count_err (Bts.numF_bad Hnf.out hf))
        have Hd := Lib.hid (show R = (Wi.zeroI, f) by rw [HR.out, ← Hll.out]; exact hd)
        have hf' : (f != 0) = true := by simpa using hf
        clear hd hf
        go_wp2_with (first | (refine wpList_storeRow rfl _ _ _ rfl B rfl (refRow []) (refRow []) rfl _ HhB.out (ref_size _ _ _ _ _ _ _) rfl (ref_one _ _ _ _ _ _ _) ?_))
        exact Hbad.out _ _ f (setRow_at HhB.out) (hbo.trans (setRow_below _ (by omega) (Nat.le_refl _))) Hd.out rfl rfl
      obtain rfl : f = 0 := Decidable.not_not.1 hf
      obtain ⟨hm, hp⟩ := Bts.numF_ok Hnf.out
      clear hf
      by_cases hx : 2000 < x.toNat
      · have hd := Wi.ins_err2 Hmany.out (Wi.count_big hp hx)
        have Hd := Lib.hid (show R = (Wi.zeroI, 4) by rw [HR.out, ← Hll.out]; exact hd)
        have hx' : 2000 < bv x := by unfold bv; omega
        clear hd hp hx
        go_wp2_with (first | (refine wpList_storeRow rfl _ _ _ rfl B rfl (refRow []) (refRow []) rfl _ HhB.out (ref_size _ _ _ _ _ _ _) rfl (ref_one _ _ _ _ _ _ _) ?_))
        exact Hbad.out _ _ 4 (setRow_at HhB.out) (hbo.trans (setRow_below _ (by omega) (Nat.le_refl _))) Hd.out rfl rfl
      have hx' : ¬ (2000 < bv x) := by unfold bv; omega
      have hcnt := Wi.count_ok hp (by omega)
      obtain ⟨N, hN⟩ : ∃ N, N = x.toNat := ⟨_, rfl⟩
      have hN2 : N ≤ 2000 := by omega
      have Hbn := Lib.hid (show bv x = (N : Int) by unfold bv; rw [hN])
      obtain ⟨a5, hcut5, hs5, hn5⟩ := cutS rfl hs m hm htc
      obtain ⟨u0, hu0⟩ : ∃ u, u = t.drop m := ⟨_, rfl⟩
      rw [← hu0] at hs5 hn5 hcnt
      rw [hn5] at hcut5
      obtain ⟨c5, hc5⟩ : ∃ c, c = c4 - m := ⟨_, rfl⟩
      rw [← hc5] at hcut5
      have huc : u0.length ≤ c5 := by omega
      have hu8 : u0.length ≤ 800000 := by omega
      have Hcnt := Lib.hid hcnt
      have HN := Lib.hid hN
      clear hcnt hN hu0 hc5 hs hn5 hp hx hm hyl
      go_wp2_with fail
      go_loopw [4, 13] (fun t4 i wr => ∃ (k : Nat) (us ts : List (List (BitVec 8))) (u : Bts.Bits) (a6 : Option Addr) (c6 : Nat) (aL : Option Addr) (cL : Nat) (aD : Option Addr) (nD cD : Nat), t4 = .slice a6 u.length c6 ∧ u.length ≤ c6 ∧ u.length ≤ 800000 ∧ i = .int .u64 (bv (BitVec.ofNat 64 k)) ∧ k ≤ N + 1 ∧ us.length = k ∧ Sl EU8 (fun k => B + 1 ≤ k ∧ k < M) wr a6 (Bts.asB u) ∧
        wr.heap[M]? = some (.cells (refCells ys aL ts.length cL aD nD cD) 35 (0, 0)) ∧ Own (EIn (M + 1) EBytes) 23 (M + 1) wr (.slice aL ts.length cL) ts ∧ (k ≤ N → ts = us) ∧
        (k = N + 1 → ts = us.take N ∧ ∃ d, us[N]? = some d ∧ nD = d.length ∧ nD ≤ cD ∧ cD ≤ maxLen ∧ Sl EU8 (fun b => M + 1 ≤ b) wr aD d) ∧ Only (fun q => q = M ∨ M + 1 ≤ q) w3 wr ∧ Bts.manyP Wi.textP k u0 = .inl (us, u)) (fun _ i _ => N + 1 - (intOf i).toNat)
      case atStart => exact ⟨0, [], [], u0, a5, c5, none, 0, none, 0, 0, rfl, huc, hu8, rfl, Nat.zero_le _, rfl, hs5, Hh.out, Own.nil _ _ _ _, fun _ => rfl, fun h => absurd h (by omega), Ho.out.mono (T := fun q => q = M ∨ M + 1 ≤ q) (fun _ h => .inl h), rfl⟩
      case round =>
        clear hs5 huc hu8 hcut5
        obtain ⟨k, us, ts, u, a6, c6, aL, cL, aD, nD, cD, rfl, huc, hu8, rfl, hk, hul, hs, hh, hown, hts, hdt, ho, hmu⟩ := hrel
        obtain ⟨wq, hwq⟩ : ∃ z, z = wr := ⟨_, rfl⟩
        subst hwq
        have hszq : M + 1 ≤ wq.heap.size := by have := ho.size; omega
        have hbq : Below B w wq := hbw3.trans (ho.below (by omega) fun q hq => by omega)
        have HhBq := Lib.hid (show wq.heap[B]? = some (.cells (refRow []) 35 (0, 0)) by rw [ho.block B (by omega) (by omega)]; exact HhB3.out)
        have Hoq := Lib.hid ho
        have Hhq := Lib.hid hh
        have Hmu := Lib.hid hmu
        have Hown := Lib.hid hown
        have Hts := Lib.hid hts
        have Hdt := Lib.hid hdt
        have Hbk := Lib.hid (show bv (BitVec.ofNat 64 k) = (k : Int) by unfold bv; rw [BitVec.toNat_ofNat]; omega)
        clear ho hh hmu hown hts hdt
        by_cases hle : k ≤ N
        · have hle' : bv (BitVec.ofNat 64 k) ≤ bv x := by rw [Hbk.out, Hbn.out]; omega
          have hfail : ∀ e, Wi.textP u = .inr e → R = (Wi.zeroI, e) := fun e he => by
            rw [HR.out, ← Hll.out]
            exact Wi.ins_err3 Hmany.out Hcnt.out Hmu.out (by rw [← HN.out]; exact hle) he
          have Hfail := Lib.hid hfail
          clear hfail
          obtain ⟨y, p, f, hnf⟩ : ∃ n m f, Bts.numF u = (n, m, f) := ⟨_, _, _, rfl⟩
          have Hnf2 := Lib.hid hnf
          clear hnf
          go_wp2_with fail
          refine (ref_ReadNum a6 u.length c6 u _ ⟨by rw [Bts.asB_len], hs.any (by decide)⟩ huc (by omega)).mono ?_
          rw [Hnf2.out]
          rintro e w6 ⟨rfl, rfl⟩
          dsimp only
          by_cases hf : ¬ f = 0
          · have Hd := Lib.hid (Hfail.out f (Wi.text_err (Bts.numF_bad Hnf2.out hf)))
            have hf' : (f != 0) = true := by simpa using hf
            clear hf
            go_wp2_with (first | (refine wpList_storeRow rfl _ _ _ rfl B rfl (refRow []) (refRow []) rfl _ HhBq.out (ref_size _ _ _ _ _ _ _) rfl (ref_one _ _ _ _ _ _ _) ?_))
            exact Hbad.out _ _ f (setRow_at HhBq.out) (hbq.trans (setRow_below _ (by omega) (Nat.le_refl _))) Hd.out rfl rfl
          obtain rfl : f = 0 := Decidable.not_not.1 hf
          obtain ⟨hm, hp⟩ := Bts.numF_ok Hnf2.out
          clear hf
          by_cases hy : 4000 < y.toNat
          · have Hd := Lib.hid (Hfail.out 3 (Wi.text_big hp hy))
            have hy' : 4000 < bv y := by unfold bv; omega
            clear hp hy
            go_wp2_with (first | (refine wpList_storeRow rfl _ _ _ rfl B rfl (refRow []) (refRow []) rfl _ HhBq.out (ref_size _ _ _ _ _ _ _) rfl (ref_one _ _ _ _ _ _ _) ?_))
            exact Hbad.out _ _ 3 (setRow_at HhBq.out) (hbq.trans (setRow_below _ (by omega) (Nat.le_refl _))) Hd.out rfl rfl
          have hy' : ¬ (4000 < bv y) := by unfold bv; omega
          obtain ⟨a7, hcut7, hs7, hn7⟩ := cutS rfl hs p hm huc
          obtain ⟨u1, hu1⟩ : ∃ z, z = u.drop p := ⟨_, rfl⟩
          rw [← hu1] at hs7 hn7 hp
          rw [hn7] at hcut7
          obtain ⟨c7, hc7⟩ : ∃ c, c = c6 - p := ⟨_, rfl⟩
          rw [← hc7] at hcut7
          have huc7 : u1.length ≤ c7 := by omega
          have hu87 : u1.length ≤ 800000 := by omega
          obtain ⟨yi, hyi⟩ : ∃ z, z = (y.toNat : Int) := ⟨_, rfl⟩
          have hyx : y.toInt = yi := by rw [hyi, BitVec.toInt_eq_toNat_cond, if_pos (by omega)]
          have hyi0 : 0 ≤ yi := by omega
          have hyi4 : yi ≤ 4000 := by omega
          have Hp := Lib.hid hp
          have Hyi := Lib.hid hyi
          have hyN : y.toNat ≤ 4000 := by omega
          have HyN := Lib.hid hyN
          clear hp hyi hy hu1 hc7 hs hm hyN hn7
          by_cases hsh : u1.length < 8 * y.toNat
          · have Hd := Lib.hid (Hfail.out 10 (Wi.text_short Hp.out HyN.out hsh))
            have hsh' : (u1.length : Int) < 8 * yi := by rw [Hyi.out]; omega
            clear hsh
            go_wp2_with (first | (refine wpList_storeRow rfl _ _ _ rfl B rfl (refRow []) (refRow []) rfl _ HhBq.out (ref_size _ _ _ _ _ _ _) rfl (ref_one _ _ _ _ _ _ _) ?_))
            exact Hbad.out _ _ 10 (setRow_at HhBq.out) (hbq.trans (setRow_below _ (by omega) (Nat.le_refl _))) Hd.out rfl rfl
          have hsh' : ¬ ((u1.length : Int) < 8 * yi) := by rw [Hyi.out]; omega
          obtain ⟨i8, hi8⟩ : ∃ z, z = 8 * y.toNat := ⟨_, rfl⟩
          have hi8u : i8 ≤ u1.length := by omega
          have htok := Wi.text_ok Hp.out HyN.out (by omega)
          rw [← hi8] at htok
          obtain ⟨a8, hcut8, hs8⟩ := cutH rfl hs7 i8 hi8u huc7
          obtain ⟨a10, hcut10, hs10, hn10⟩ := cutS rfl hs7 i8 hi8u huc7
          have hi8i : (i8 : Int) = 8 * yi := by rw [Hyi.out]; omega
          rw [hi8i] at hcut8 hcut10
          obtain ⟨u2, hu2⟩ : ∃ z, z = u1.drop i8 := ⟨_, rfl⟩
          rw [← hu2] at hs10 hn10 htok
          rw [hn10] at hcut10
          obtain ⟨c10, hc10⟩ : ∃ c, c = c7 - i8 := ⟨_, rfl⟩
          rw [← hc10] at hcut10
          have huc10 : u2.length ≤ c10 := by omega
          have hu810 : u2.length ≤ 800000 := by omega
          have Hmu' := Lib.hid (Bts.manyP_ok Hmu.out htok)
          have hl8 : i8 = (Bts.asB (u1.take i8)).length := by rw [Bts.asB_len, List.length_take]; omega
          obtain ⟨tb, htb⟩ : ∃ z, z = Bts.pack (u1.take i8) := ⟨_, rfl⟩
          have hi8b : i8 ≤ 100000000 := by omega
          have Hl8 := Lib.hid hl8
          have Htb := Lib.hid htb
          have Hsh := Lib.hid hsh
          clear hl8 htb htok hi8 hi8u hi8i hu2 hn10 hc10 hs7 hsh Hp
          go_wp2_with fail
          refine (ref_Bytes a8 i8 c7 (u1.take i8) wq.heap.size _ rfl ⟨Hl8.out, hs8.any (by decide)⟩ hi8b).mono ?_
          rw [← Htb.out]
          rintro e w8 ⟨v8, rfl, ho8, hb8⟩
          obtain ⟨a9, c9, rfl, hc9, hm9, hr9, ho8'⟩ := ho8.shape tb.length rfl
          have hon : Only (fun _ => False) wq w8 := ⟨hb8.os, hb8.tape, hb8.output, hb8.size, fun q hq _ => hb8.block q hq⟩
          have hM8 : w8.heap[M]? = some (.cells (refCells ys aL ts.length cL aD nD cD) 35 (0, 0)) := by rw [hb8.block M (by omega)]; exact Hhq.out
          have hs8w : M + 1 ≤ w8.heap.size := by have := hb8.size; omega
          clear hs8 ho8 hr9
          have hnext : bv (BitVec.ofNat 64 k + 1#64) = bv (BitVec.ofNat 64 (k + 1)) := by rw [BitVec.ofNat_add]
          have hbk' : bv (BitVec.ofNat 64 (k + 1)) = ((k + 1 : Nat) : Int) := by unfold bv; rw [BitVec.toNat_ofNat]; omega
          have Hnext := Lib.hid hnext
          have Hbk' := Lib.hid hbk'
          clear hnext hbk'
          by_cases hlt : k < N
          · have hlt' : bv (BitVec.ofNat 64 k) < bv x := by rw [Hbk.out, Hbn.out]; omega
            obtain rfl : ts = us := Hts.out hle
            obtain ⟨hit1, hit2⟩ := text_item (g := 0) Hown.out hon (fun _ h => absurd h id) (by omega) hszq ho8' hc9 hm9
            have c9m : w8.cell? ⟨M, 9, none⟩ = some (.slice aL ts.length cL) := by simp [World.cell?, hM8, refCells]
            have c9a : (w8.alloc (.cells #[.slice a9 tb.length c9] 23)).cell? ⟨M, 9, none⟩ = some (.slice aL ts.length cL) := cell_thru c9m ((Below.refl _ _).alloc (Nat.le_refl _) _)
            have hb1 : ts.length + [tb].length ≤ maxLen := by unfold maxLen; simp; omega
            have hb2 : (ts.length + [tb].length) * 24 ≤ 140737488355328 := by simp; omega
            have Hb1 := Lib.hid hb1
            have Hb2 := Lib.hid hb2
            have Hon := Lib.hid hon
            have HM8 := Lib.hid hM8
            have Hul := Lib.hid hul
            clear hb1 hb2 hon hM8 hul
            go_wp2_with (first
              | (refine wpList_app (EIn (M + 1) EBytes) rfl rfl (by rfl) (by rfl) ti_texts hit1 rfl hit2 Hb1.out Hb2.out (by simp; omega) ?_
                 intro v11 w11 ho11 hg11 hv11 hb11
                 obtain ⟨a11, c11, rfl, hc11, hm11, hr11, ho11'⟩ := ho11.shape (ts.length + 1) (by simp)
                 have k11 : w11.cell? ⟨M, 9, none⟩ = some (.slice aL ts.length cL) := (hb11.cell (p := ⟨M, 9, none⟩) (by show M < M + 1; omega)).trans c9a
                 have kf11 : w11.frozen? ⟨M, 9, none⟩ = false := by
                   rw [hb11.frozen (p := ⟨M, 9, none⟩) (by show M < M + 1; omega), Below.frozen (B := w8.heap.size) ((Below.refl _ _).alloc (Nat.le_refl _) _) (p := ⟨M, 9, none⟩) (cell_lt c9m)]
                   simp [World.frozen?, HM8.out]))
            all_goals
              have hMf : (w11.setCell ⟨M, 9, none⟩ (.slice a11 (ts.length + 1) c11)).heap[M]? = some (.cells (refCells ys a11 (ts.length + 1) c11 aD nD cD) 35 (0, 0)) := by
                have e : w11.heap[M]? = some (.cells (refCells ys aL ts.length cL aD nD cD) 35 (0, 0)) := by
                  rw [hb11.block M (by omega), Below.heap_alloc _ _ _ (cell_lt c9m)]; exact HM8.out
                have := heap_set e 9 (.slice a11 (ts.length + 1) c11)
                simpa [refCells] using this
              have hOb : Only (fun q => q = M ∨ M + 1 ≤ q) w8 (w11.setCell ⟨M, 9, none⟩ (.slice a11 (ts.length + 1) c11)) := by
                have h1 : Only (fun q => q = M ∨ M + 1 ≤ q) w8 (w8.alloc (.cells #[.slice a9 tb.length c9] 23)) := Below.only ((Below.refl _ _).alloc (Nat.le_refl _) _)
                have h2 : Only (fun q => q = M ∨ M + 1 ≤ q) (w8.alloc (.cells #[.slice a9 tb.length c9] 23)) w11 := ⟨hb11.os, hb11.tape, hb11.output, hb11.size, fun q hq hn => hb11.block q (by omega)⟩
                exact (h1.trans h2 fun _ _ h => h).setCell (p := ⟨M, 9, none⟩) (.inl (.inl rfl)) _
              have hoF : Own (EIn (M + 1) EBytes) 23 (M + 1) (w11.setCell ⟨M, 9, none⟩ (.slice a11 (ts.length + 1) c11)) (.slice a11 (ts.length + 1) c11) (ts ++ [tb]) :=
                ho11'.in_only (S := (· = M)) (Only.setCell (S := (· = M)) (Only.refl _ _) (p := ⟨M, 9, none⟩) (.inl rfl) _) (fun j hj => by omega) (fun j hj => by omega)
              have HMf := Lib.hid hMf
              have HOb := Lib.hid hOb
              have HoF := Lib.hid hoF
              have Hhs10 := Lib.hid hs10
              have hO : Only (fun q => q = M ∨ M + 1 ≤ q) wq (w11.setCell ⟨M, 9, none⟩ (.slice a11 (ts.length + 1) c11)) := (Hon.out.mono (T := fun q => q = M ∨ M + 1 ≤ q) fun _ h => absurd h id).trans hOb fun _ _ h => h
              have HO := Lib.hid hO
              clear hMf hOb hoF ho11 hg11 hv11 hr11 ho11' hO hs10
              go_roundw
              case rel =>
                refine ⟨k + 1, ts ++ [tb], ts ++ [tb], u2, a10, c10, a11, c11, aD, nD, cD, rfl, huc10, hu810, by rw [Hnext.out], by omega, by simp [Hul.out], Hhs10.out.only (by decide) HO.out (fun q hq => by omega), ?_, ?_, fun _ => rfl, fun h => absurd h (by omega), Hoq.out.trans HO.out fun _ _ h => h, ?_⟩
                · rw [List.length_append]; exact HMf.out
                · rw [List.length_append]; exact HoF.out
                · rw [Htb.out]; exact Hmu'.out
              case measure =>
                rw [Hnext.out]
                show N + 1 - (bv (BitVec.ofNat 64 (k + 1))).toNat < N + 1 - (bv (BitVec.ofNat 64 k)).toNat
                rw [Hbk'.out, Hbk.out]
                omega
          · have hlt' : ¬ (bv (BitVec.ofNat 64 k) < bv x) := by rw [Hbk.out, Hbn.out]; omega
            obtain rfl : ts = us := Hts.out hle
            have hkN : k = N := by omega
            have c10m : w8.cell? ⟨M, 10, none⟩ = some (.slice aD nD cD) := by simp [World.cell?, hM8, refCells]
            have kf10 : w8.frozen? ⟨M, 10, none⟩ = false := by simp [World.frozen?, hM8]
            have hMf : (w8.setCell ⟨M, 10, none⟩ (.slice a9 tb.length c9)).heap[M]? = some (.cells (refCells ys aL ts.length cL a9 tb.length c9) 35 (0, 0)) := by
              have := heap_set hM8 10 (.slice a9 tb.length c9)
              simpa [refCells] using this
            have hset : Only (· = M) w8 (w8.setCell ⟨M, 10, none⟩ (.slice a9 tb.length c9)) := Only.setCell (S := (· = M)) (Only.refl _ _) (p := ⟨M, 10, none⟩) (.inl rfl) _
            have hO : Only (· = M) wq (w8.setCell ⟨M, 10, none⟩ (.slice a9 tb.length c9)) := (hon.mono (T := (· = M)) fun _ h => absurd h id).trans hset fun _ _ h => h
            have hoF := Hown.out.in_only hO (fun j hj => by omega) (fun j hj => by omega)
            have hsD : Sl EU8 (fun b => M + 1 ≤ b) (w8.setCell ⟨M, 10, none⟩ (.slice a9 tb.length c9)) a9 tb := ho8'.slB.mono (by decide) fun q hq hl => ⟨hset.block q hl (by omega), by omega⟩
            have hus : ts.length = N := by omega
            have HO := Lib.hid (hO.mono (T := fun q => q = M ∨ M + 1 ≤ q) fun _ h => .inl h)
            have HMf := Lib.hid hMf
            have HoF := Lib.hid hoF
            have HsD := Lib.hid hsD
            have Hhs10 := Lib.hid hs10
            have Hul := Lib.hid hul
            have HkN := Lib.hid hkN
            have Hus := Lib.hid hus
            clear hM8 hMf hset hO hoF hsD hon hs10 hul hkN hus hlt
            go_wp2_with fail
            go_roundw
            case rel =>
              refine ⟨k + 1, ts ++ [tb], ts, u2, a10, c10, aL, cL, a9, tb.length, c9, rfl, huc10, hu810, by rw [Hnext.out], by omega, by simp [Hul.out], Hhs10.out.only (by decide) HO.out (fun q hq => by omega), HMf.out, HoF.out, fun h => absurd h (by have := HkN.out; omega), fun _ => ⟨?_, tb, ?_, rfl, hc9, hm9, HsD.out⟩, Hoq.out.trans HO.out fun _ _ h => h, ?_⟩
              · rw [← Hus.out]; simp
              · rw [← Hus.out]; simp
              · rw [Htb.out]; exact Hmu'.out
            case measure =>
              rw [Hnext.out]
              show N + 1 - (bv (BitVec.ofNat 64 (k + 1))).toNat < N + 1 - (bv (BitVec.ofNat 64 k)).toNat
              rw [Hbk'.out, Hbk.out]
              omega
        · have hle' : ¬ (bv (BitVec.ofNat 64 k) ≤ bv x) := by rw [Hbk.out, Hbn.out]; omega
          have hk1 : k = N + 1 := by omega
          obtain ⟨rfl, d, hdN, rfl, hcD, hmD, hsD⟩ := Hdt.out hk1
          have hok := Wi.ins_ok Hmany.out Hcnt.out (by rw [← HN.out, ← hk1]; exact Hmu.out) (by rw [← HN.out]; exact hdN)
          rw [← HN.out, Hll.out, ← HR.out] at hok
          obtain ⟨ts, hts⟩ : ∃ z, z = us.take N := ⟨_, rfl⟩
          rw [← hts] at hok Hown Hhq
          clear hts Hts Hdt
          have Hfin := Lib.hid hok
          obtain ⟨_, _, e9, hkc, hcm9, _, _⟩ := Hown.out.shape ts.length rfl
          injection e9 with e91 e92 e93
          subst e91
          subst e93
          have hLs : Sl EBytes (fun b => M + 1 ≤ b) wq aL ts := Hown.out.sl_in (Nat.le_refl _) (Nat.le_refl _)
          have HLs := Lib.hid hLs
          have HsD := Lib.hid hsD
          clear hok hLs hsD e92 hle hdN hk1 hul
          by_cases h7 : 7 < u.length
          · have h7' : 7 < (u.length : Int) := by omega
            have Hd := Lib.hid (show R = (Wi.zeroI, 12) by rw [Hfin.out, if_pos (.inl h7)])
            clear h7
            go_wp2_with (first | (refine wpList_storeRow rfl _ _ _ rfl B rfl (refRow []) (refRow []) rfl _ HhBq.out (ref_size _ _ _ _ _ _ _) rfl (ref_one _ _ _ _ _ _ _) ?_))
            exact Hbad.out _ _ 12 (setRow_at HhBq.out) (hbq.trans (setRow_below _ (by omega) (Nat.le_refl _))) Hd.out rfl rfl
          · have h7' : ¬ (7 < (u.length : Int)) := by omega
            go_wp2_with fail
            go_loop [120] (fun i => ∃ q : Nat, q ≤ u.length ∧ i = .int .i64 q ∧ ∀ x ∈ u.take q, x = false) (fun i => u.length - (intOf i).toNat)
            case atStart => exact ⟨0, Nat.zero_le _, rfl, by simp⟩
            case round =>
              obtain ⟨q, hq, rfl, hzero⟩ := hrel
              by_cases hlq : q < u.length
              · have hqi : (q : Int) < (u.length : Int) := by omega
                obtain ⟨bu, ou, rfl, hcu⟩ := SB.at hs q (by rw [Bts.asB_len]; exact hlq)
                rw [Bts.asB_get u q hlq] at hcu
                have htk : u.take (q + 1) = u.take q ++ [u[q]] := (List.take_append_getElem hlq).symm
                have hmem : u[q] ∈ u := List.getElem_mem hlq
                have Hzero := Lib.hid hzero
                have Htk := Lib.hid htk
                clear hzero htk
                cases hx : u[q] with
                | true =>
                  have Hd := Lib.hid (show R = (Wi.zeroI, 12) by rw [Hfin.out, if_pos (.inr (List.any_eq_true.2 ⟨true, by rw [← hx]; exact hmem, rfl⟩))])
                  rw [hx] at hcu
                  have hcu' : wq.cell? ⟨bu, ou + q, none⟩ = some (.int .u8 1) := hcu
                  clear hx hmem hcu
                  go_wp2_with (first | (refine wpList_storeRow rfl _ _ _ rfl B rfl (refRow []) (refRow []) rfl _ HhBq.out (ref_size _ _ _ _ _ _ _) rfl (ref_one _ _ _ _ _ _ _) ?_))
                  exact Hbad.out _ _ 12 (setRow_at HhBq.out) (hbq.trans (setRow_below _ (by omega) (Nat.le_refl _))) Hd.out rfl rfl
                | false =>
                  rw [hx] at hcu
                  have hcu' : wq.cell? ⟨bu, ou + q, none⟩ = some (.int .u8 0) := hcu
                  have hz' : ∀ x ∈ u.take (q + 1), x = false := by
                    rw [Htk.out, hx]
                    intro x hx
                    rcases List.mem_append.1 hx with h | h
                    · exact Hzero.out x h
                    · exact List.mem_singleton.1 h
                  have Hz' := Lib.hid hz'
                  clear hz' hx hmem hcu
                  go_wp2_with fail
                  go_round
                  case rel => exact ⟨q + 1, by omega, by go_num, Hz'.out⟩
                  case measure => simp [intOf]; omega
              · have hqi : ¬ ((q : Int) < (u.length : Int)) := by omega
                rw [List.take_of_length_le (by omega)] at hzero
                have hd : R = ((ys, ts, d), 0) := by
                  rw [Hfin.out, if_neg]
                  rintro (h | h)
                  · exact h7 h
                  · obtain ⟨x, hx, hx2⟩ := List.any_eq_true.1 h
                    rw [hzero x hx] at hx2
                    cases hx2
                have HRx := Lib.hid hd
                clear hd hzero
                go_wp2_with (first
                  | (refine wpList_loadRow rfl _ _ rfl M rfl (refCells ys aL ts.length cL aD d.length cD) _ (0, 0) _ Hhq.out Try.underlying35 rfl (ref_size _ _ _ _ _ _ _) ?_)
                  | (refine wpList_storeRow rfl _ _ _ rfl B rfl (refRow []) (refCells ys aL ts.length cL aD d.length cD) rfl _ HhBq.out (ref_size _ _ _ _ _ _ _) rfl (ref_one _ _ _ _ _ _ _) ?_))
                refine bodyPost_ret (v := .tuple #[.agg (refCells ys aL ts.length cL aD d.length cD), .int .i64 0]) ?_ rfl ?_
                · rw [results_cell2 (P := Try.prog) Try.results16 _ _ B 35 (refCells ys aL ts.length cL aD d.length cD) (0, 0) _ rfl (setRow_at HhBq.out) Try.underlying35 rfl (ref_size _ _ _ _ _ _ _)]
                  rfl
                · rw [HRx.out]
                  have hrow := setRow_only wq B (refCells ys aL ts.length cL aD d.length cD)
                  refine ⟨aL, cL, aD, cD, rfl, hkc, hcm9, ?_, hcD, hmD, ?_, hbq.trans (setRow_below _ (by omega) (Nat.le_refl _))⟩
                  · exact HLs.out.mono (by decide) fun q hq hlt => ⟨hrow.block q hlt (by omega), by omega⟩
                  · exact HsD.out.mono (by decide) fun q hq hlt => ⟨hrow.block q hlt (by omega), by omega⟩
end Go.Proofs.Ytdpopdgeipgheaa

/-
  The walk of the law 'BitsReads'.
-/
import Derived.Test.YtpcelfbekcpjmaaBtsRefRN
import Derived.Deep.CutBlock
namespace Go.Proofs.Ytpcelfbekcpjmaa
open Go.RowKit
set_option linter.unusedVariables false

theorem sl_int {ok : Nat → Prop} {w : World} {a : Option Addr} {l : List Int} (h : Sl EInt ok w a l) (k : Nat) (hk : k < l.length) :
    ∃ b o, a = some ⟨b, o, none⟩ ∧ w.cell? ⟨b, o + k, none⟩ = some (.int .i64 l[k]) ∧ -9223372036854775808 ≤ l[k] ∧ l[k] ≤ 9223372036854775807 := by
  obtain ⟨b, o, rfl, _, cs, hr, hc⟩ := h k l[k] (List.getElem?_eq_getElem hk)
  refine ⟨b, o, rfl, ?_, hr.2⟩
  have hr' : cs = [.int .i64 l[k]] := hr.1
  subst hr'
  have := hc 0 _ rfl
  simpa [EInt] using this
theorem reads_ints : Reads Try.prog 46 (ESlice EInt (by decide)) (bulkL (fun _ => 1)) := reads_slice (by decide) Try.underlying46 (by kernel_rfl) (reads_int Try.underlying3)

theorem slice_ok {P : Program} {w : World} {t te : TypeId} {ok : Nat → Prop} (ti : ElemInfo P t te 1 1) {a : Option Addr} {n c i : Nat} {l : List (BitVec 8)} (hl : n = l.length) (h : Sl EU8 ok w a l) (hi : i ≤ n) (hn : n ≤ c) :
    ∃ a', (∀ (W : World), (Instr.slice t (.slice a n c) (some (.int .i64 i)) none none).run P W = .ok (.slice a' (n - i) (c - i)) W) ∧ Sl EU8 ok w a' (l.drop i) := by
  obtain ⟨i0, z, hi0, hz, hsz, hby, hzc⟩ := ti.info
  refine ⟨if c = i then a else a.map (·.add (i * 1)), fun W => ?_, ?_⟩
  · have e3 : (n : Int) ≤ (c : Int) := by omega
    have e4 : (i : Int) ≤ (n : Int) := by omega
    simp [Instr.slice, run_underlying ti.under, Instr.sliceBounds, run_sliceBound, sizeOf, typeInfo, hi0, hsz, hi]
  · have := h.cut (c := c) (i := i) (j := n) hi (by omega) (by omega) (decide (c = i)) (by simp; omega)
    simp only [decide_eq_true_eq] at this
    rw [List.take_of_length_le (by rw [List.length_drop, ← hl]; exact Nat.le_refl _)] at this
    exact this

theorem sl_thru {α : Type} {E : Enc α} {w w' : World} {a : Option Addr} {l : List α} {k : Nat} (hsz : 0 < E.sz) (h : Sl E (fun q => q ≠ k) w a l) (ho : Only (· = k) w w') : Sl E (fun q => q ≠ k) w' a l :=
  h.mono hsz fun q hq hl => ⟨ho.block q hl hq, hq⟩

namespace Bts
/-- the document's reader and the program's -/
theorem num_both (b : Bytes) (r : Rd) (h0 : r.bad = 0) : (numR b r).1 = (numF (rest b r)).1 ∧ (numR b r).2.bad = (numF (rest b r)).2.2 ∧ (numF (rest b r)).2.1 ≤ (rest b r).length ∧
    rest b (numR b r).2 = (if (numF (rest b r)).2.2 = 0 then (rest b r).drop (numF (rest b r)).2.1 else []) := by
  have hd : ∀ k, rest b ⟨r.at_ + k, 0⟩ = (rest b r).drop k := fun k => by unfold rest; rw [if_pos rfl, if_pos h0, List.drop_drop]
  have hn : ∀ k e, e ≠ 0 → rest b ⟨k, e⟩ = [] := fun k e he => by unfold rest; rw [if_neg he]
  have hle := lead_le (rest b r)
  unfold numR numF
  rw [if_neg (by simp [h0])]
  by_cases h65 : 65 ≤ lead (rest b r)
  · rw [if_pos h65, if_pos h65]
    exact ⟨rfl, rfl, Nat.zero_le _, by rw [if_neg (by decide)]; exact hn _ _ (by decide)⟩
  · rw [if_neg h65, if_neg h65]
    by_cases hend : lead (rest b r) = (rest b r).length
    · rw [if_pos hend, if_pos (by omega)]
      exact ⟨rfl, rfl, Nat.zero_le _, by rw [if_neg (by decide)]; exact hn _ _ (by decide)⟩
    · rw [if_neg hend]
      by_cases hs : (rest b r).length < 2 * lead (rest b r) + 1
      · rw [if_pos hs, if_pos hs]
        exact ⟨rfl, rfl, Nat.zero_le _, by rw [if_neg (by decide)]; exact hn _ _ (by decide)⟩
      · rw [if_neg hs, if_neg hs]
        by_cases h64 : lead (rest b r) = 64
        · rw [if_pos h64, if_pos h64]
          by_cases hv : val (((rest b r).drop 65).take 64) = 0#64
          · rw [if_pos hv, if_pos hv]
            exact ⟨rfl, rfl, by simp only; omega, by rw [if_pos rfl]; exact hd 129⟩
          · rw [if_neg hv, if_neg hv]
            exact ⟨rfl, rfl, Nat.zero_le _, by rw [if_neg (by decide)]; exact hn _ _ (by decide)⟩
        · rw [if_neg h64, if_neg h64]
          exact ⟨rfl, rfl, by simp only; omega, by rw [if_pos rfl]; exact hd _⟩
theorem get_both (b : Bytes) (r : Rd) (n : Int) (h0 : r.bad = 0) : getR b r n = if (rest b r).length < clamp n then (0#64, ⟨r.at_, 10⟩) else (val ((rest b r).take (clamp n)), ⟨r.at_ + clamp n, 0⟩) := by
  unfold getR
  rw [rest_len]
  by_cases h : left b r < clamp n
  · rw [if_pos h, if_pos h]; unfold failed; rw [if_pos h0]
  · rw [if_neg h, if_neg h, h0]
theorem get_stop (b : Bytes) (r : Rd) (n : Int) (h0 : r.bad ≠ 0) : getR b r n = (0#64, r) := by
  have hl : left b r = 0 := by unfold left; rw [if_neg h0]
  have hr : rest b r = [] := by unfold rest; rw [if_neg h0]
  unfold getR
  rw [hl, hr]
  by_cases h : 0 < clamp n
  · rw [if_pos h]; unfold failed; rw [if_neg h0]
  · rw [if_neg h, show clamp n = 0 by omega]; simp [val]
theorem any_take (l : Bits) (t : Nat) (h : t < l.length) : (l.take (t + 1)).any id = ((l.take t).any id || l[t]) := by
  rw [← List.take_append_getElem h, List.any_append]; simp
end Bts

set_option maxHeartbeats 800000 in
theorem ref_ReadInt (a : Option Addr) (n c : Nat) (l : Bts.Bits) (w : World) (hr : RB w a n (Bts.asB l)) (hc : n ≤ c) (hl : n ≤ 100000) :
    Calls Try.prog 28 #[.slice a n c] w fun e w' => e = .returned (.tuple #[.int .i64 (Bts.unzig (Bts.numF l).1), .int .i64 (Bts.numF l).2.1, .int .i64 (Bts.numF l).2.2]) ∧ w = w' := by
  obtain ⟨x, hx⟩ : ∃ x, x = (Bts.numF l).1 := ⟨_, rfl⟩
  have Hx := Lib.hid hx
  rw [← hx]
  clear hx
  have hxl := x.isLt
  have e1 : ((x.toNat : Int) >>> 1) = ((x.toNat / 2 : Nat) : Int) := by rw [Int.shiftRight_eq_div_pow]; simp
  have hpar : (x &&& 1#64 == 1#64) = decide (x.toNat % 2 = 1) := by
    rw [Bool.eq_iff_iff, beq_iff_eq, decide_eq_true_eq]
    rw [← BitVec.toNat_inj, BitVec.toNat_and]
    have : (1#64 : BitVec 64).toNat = 2 ^ 1 - 1 := rfl
    rw [this, Nat.and_two_pow_sub_one_eq_mod]
  by_cases hm : x.toNat % 2 = 1
  · have hp' : (x &&& 1#64 == 1#64) = true := by rw [hpar]; simpa using hm
    have hu : wrap64 (wrap64 (-((x.toNat : Int) >>> 1)) - 1) = Bts.unzig x := by
      rw [e1]; unfold Bts.unzig wrap64; rw [if_pos hm]; omega
    have Hu := Lib.hid hu
    clear e1 hpar hm hu
    go_enter Try.func28, Try.ntmps28
    go_wp2_with fail
    refine (ref_ReadNum a n c l _ hr hc hl).mono ?_
    rw [← Hx.out]
    rintro e w2 ⟨rfl, rfl⟩
    go_wp2_with fail
    refine bodyPost_ret (v := .tuple #[.int .i64 (Bts.unzig x), .int .i64 (Bts.numF l).2.1, .int .i64 (Bts.numF l).2.2]) (by simp [results, Try.results28, go_sem, Hu.out]) rfl ?_
    exact ⟨rfl, rfl⟩
  · have hp' : (x &&& 1#64 == 1#64) = false := by rw [hpar]; simpa using hm
    have hu : ((x.toNat : Int) >>> 1) = Bts.unzig x := by
      rw [e1]; unfold Bts.unzig; rw [if_neg hm]
    have Hu := Lib.hid hu
    clear e1 hpar hm hu
    go_enter Try.func28, Try.ntmps28
    go_wp2_with fail
    refine (ref_ReadNum a n c l _ hr hc hl).mono ?_
    rw [← Hx.out]
    rintro e w2 ⟨rfl, rfl⟩
    go_wp2_with fail
    refine bodyPost_ret (v := .tuple #[.int .i64 (Bts.unzig x), .int .i64 (Bts.numF l).2.1, .int .i64 (Bts.numF l).2.2]) (by simp [results, Try.results28, go_sem, Hu.out]) rfl ?_
    exact ⟨rfl, rfl⟩

set_option maxRecDepth 4096 in
set_option maxHeartbeats 3200000 in
theorem law_BitsReads (a : Option Addr) (c : Nat) (b : List (BitVec 8)) (ak : Option Addr) (ck : Nat) (ks : List Int) (az : Option Addr) (cz : Nat) (zs : List Int) (w : World) (hs : SB w a b) (hc : b.length ≤ c) (hcm : c ≤ maxLen)
    (hks : Sl EInt (fun _ => True) w ak ks) (hck : ks.length ≤ ck) (hckm : ck ≤ maxLen) (hzs : Sl EInt (fun _ => True) w az zs) (hcz : zs.length ≤ cz) (hczm : cz ≤ maxLen) :
    Calls Try.prog 6 #[.slice a b.length c, .slice ak ks.length ck, .slice az zs.length cz] w fun e w' => e = .returned (.bool true) ∧ Below w.heap.size w w' := by
  go_enter Try.func6, Try.ntmps6
  go_wp2_with fail
  refine (law1_took _).mono ?_
  rintro e w1 ⟨rfl, hbw1⟩
  by_cases h1 : 200 < b.length
  · have h1' : decide (200 < (b.length : Int)) = true := by simp; omega
    go_wp2
    go_ret
    exact ⟨rfl, hbw1⟩
  have h1' : decide (200 < (b.length : Int)) = false := by simp; omega
  by_cases h2 : 60 < ks.length
  · have h2' : decide (60 < (ks.length : Int)) = true := by simp; omega
    go_wp2
    go_ret
    exact ⟨rfl, hbw1⟩
  have h2' : decide (60 < (ks.length : Int)) = false := by simp; omega
  have hs1 := hs.below (by decide) hbw1
  go_wp2_with fail
  refine (ref_Copy_at w1.heap.size _ _ _ b _ (by rfl) ⟨rfl, hs1⟩ (by omega)).mono ?_
  rintro e w2 ⟨v2, rfl, ho2, hb2⟩
  obtain ⟨a2, c2, rfl, hc2, hm2, hr2, _⟩ := ho2.shape b.length rfl
  have hbw2 := hbw1.trans (hb2.mono hbw1.size)
  go_wp2_with fail
  refine (bits_Read w2.heap.size _ _ _ b _ (by rfl) hr2 (by omega)).mono ?_
  rintro e w3 ⟨k, rfl, hk, hr3, hb3⟩
  have hbw3 := hbw2.trans (hb3.mono hbw2.size)
  have hwk : w.heap.size ≤ k := by have := hbw2.size; omega
  have hs3 := hs.below (by decide) hbw3
  go_wp2_with fail
  refine (ref_Bits _ _ _ b w3.heap.size _ (by rfl) ⟨rfl, hs3⟩ (by omega)).mono ?_
  rintro e w4 ⟨v4, rfl, ho4, hb4⟩
  obtain ⟨a4, c4, rfl, hc4, hm4, hr4, ho4'⟩ := ho4.shape (8 * b.length) (by rw [Bts.asB_len, Bts.bitsOf_len])
  have hr4' := hr3.keep hb4
  have hbw4 := hbw3.trans (hb4.mono hbw3.size)
  have hrk : Sl EU8 (fun q => q ≠ k) w4 a4 (Bts.asB (Bts.bitsOf b)) := ho4'.slB.mono (by decide) fun q hq _ => ⟨rfl, by have := hr3.lt; omega⟩
  have hksk : Sl EInt (fun q => q ≠ k) w4 ak ks := hks.mono (by decide) fun q _ hq => ⟨hbw4.block q hq, by omega⟩
  have hzsk : Sl EInt (fun q => q ≠ k) w4 az zs := hzs.mono (by decide) fun q _ hq => ⟨hbw4.block q hq, by omega⟩
  have hk4 : k < w4.heap.size := hr4'.lt
  have hsk : Sl EU8 (fun q => q ≠ k) w4 a b := hs.mono (by decide) fun q _ hq => ⟨hbw4.block q hq, by omega⟩
  have hr2k : Sl EU8 (fun q => q ≠ k) w4 a2 b := hr2.2.mono (by decide) fun q _ hq => ⟨((hb3.trans (hb4.mono hb3.size)).block q hq), by omega⟩
  clear ho4 ho4' hr4 hr3 ho2 hs1 hs3 hb3 hb4 hbw1 hbw2 hbw3 hs hks hzs
  go_wp2_with fail
  go_loopw [9, 10, 41] (fun rs bd i wr => ∃ (j : Nat) (r : Bts.Rd) (a5 : Option Addr) (n5 c5 : Nat), j ≤ ks.length ∧ i = .int .i64 j ∧ bd = .int .i64 r.bad ∧ rs = .slice a5 n5 c5 ∧ n5 = (Bts.rest b r).length ∧ n5 ≤ c5 ∧ n5 ≤ 2000 ∧ Sl EU8 (fun q => q ≠ k) wr a5 (Bts.asB (Bts.rest b r)) ∧ RdAt (fun q => w2.heap.size ≤ q ∧ q < k) wr k b r ∧ Only (· = k) w4 wr) (fun _ _ i _ => ks.length - (intOf i).toNat)
  case atStart =>
    refine ⟨0, ⟨0, 0⟩, a4, 8 * b.length, c4, Nat.zero_le _, rfl, rfl, rfl, ?_, hc4, by omega, ?_, hr4', Only.refl _ _⟩
    · rw [Bts.rest_zero, Bts.bitsOf_len]
    · rw [Bts.rest_zero]; exact hrk
  case round =>
    obtain ⟨j, r, a5, n5, c5, hj, rfl, rfl, rfl, hn5, hnc5, hn52, hrs, hrd, hon⟩ := hrel
    have hbk : Below k w4 wr := hon.below (Nat.le_of_lt hk4) fun q hq => by omega
    have hbwr : Below w.heap.size w wr := hbw4.trans (hbk.mono hwk)
    by_cases hlt : j < ks.length
    · have hji : (j : Int) < (ks.length : Int) := by omega
      obtain ⟨bk, ok', rfl, ckk, hk1, hk2⟩ := sl_int (sl_thru (by decide) hksk hon) j hlt
      have hzsr := sl_thru (by decide) hzsk hon
      obtain ⟨kk, hkk⟩ : ∃ x, x = ks[j] := ⟨_, rfl⟩
      rw [← hkk] at ckk hk1 hk2
      clear hkk
      have hrr : RB wr a5 n5 (Bts.asB (Bts.rest b r)) := ⟨by rw [Bts.asB_len]; exact hn5, hrs.any (by decide)⟩
      have Hn5 := Lib.hid hn5
      clear hn5
      go_upto_if 49 with fail
      go_cut [13] (fun s wx => ∃ nn : Int, s = .int .i64 nn ∧ (-9223372036854775808 ≤ nn ∧ nn ≤ 9223372036854775807) ∧ wx = wr)
      case first =>
        by_cases hz : j < zs.length
        · have hzi : (j : Int) < (zs.length : Int) := by omega
          obtain ⟨bz, oz, rfl, cz', hz1, hz2⟩ := sl_int hzsr j hz
          obtain ⟨zz, hzz⟩ : ∃ x, x = zs[j] := ⟨_, rfl⟩
          rw [← hzz] at cz' hz1 hz2
          clear hzz
          go_wp2_with fail
          go_meet
          exact ⟨zz, rfl, ⟨hz1, hz2⟩, rfl⟩
        · have hzi : ¬ ((j : Int) < (zs.length : Int)) := by omega
          go_wp2_with fail
          go_meet
          exact ⟨0, rfl, by decide, rfl⟩
      obtain ⟨nn, rfl, hnn, hwc⟩ := hcut
      obtain ⟨wy, hwy⟩ : ∃ x, x = wc := ⟨_, rfl⟩
      subst hwy
      rw [hwc]
      clear hwc
      go_upto_block 2 with fail
      go_cut [16, 17] (fun m e wx => ∃ (mm : Nat) (r' : Bts.Rd), m = .int .i64 mm ∧ e = .int .i64 r'.bad ∧ mm ≤ n5 ∧ RdAt (fun q => w2.heap.size ≤ q ∧ q < k) wx k b r' ∧ Only (· = k) wr wx ∧ Bts.rest b r' = (if r'.bad = 0 then (Bts.rest b r).drop mm else []))
      case first =>
        have hv0 : bv (0#64) = (0 : Int) := rfl
        by_cases hb0 : r.bad = 0
        · have hbb : (r.bad == 0) = true := by simpa using hb0
          have hgb := Bts.get_both b r nn hb0
          obtain ⟨hq1, hq2, hq3, hq4⟩ := Bts.num_both b r hb0
          have Hb0 := Lib.hid hb0
          have Hgb := Lib.hid hgb
          have Hq1 := Lib.hid hq1
          have Hq2 := Lib.hid hq2
          have Hq3 := Lib.hid hq3
          have Hq4 := Lib.hid hq4
          clear hb0 hgb hq1 hq2 hq3 hq4
          by_cases k0 : kk = 0
          · have k0' : (kk == 0) = true := by simpa using k0
            clear k0
            go_wp2_with fail
            refine (ref_Get a5 n5 c5 (Bts.rest b r) nn _ hrr hnc5 (by omega) hnn).mono ?_
            by_cases hsh : (Bts.rest b r).length < Bts.clamp nn
            · rw [if_pos hsh]
              rintro e w6 ⟨rfl, rfl⟩
              go_wp2_with fail
              refine (bits_Get k b r nn _ hrd (by omega) hnn).mono ?_
              rw [Hgb.out, if_pos hsh]
              rintro e w6 ⟨rfl, hr6, ho6⟩
              simp only [hv0]
              go_wp2_with fail
              go_meet
              exact ⟨0, _, rfl, rfl, Nat.zero_le _, hr6, ho6, rfl⟩
            · rw [if_neg hsh]
              rintro e w6 ⟨rfl, rfl⟩
              go_wp2_with fail
              refine (bits_Get k b r nn _ hrd (by omega) hnn).mono ?_
              rw [Hgb.out, if_neg hsh]
              rintro e w6 ⟨rfl, hr6, ho6⟩
              go_wp2_with fail
              go_meet
              exact ⟨Bts.clamp nn, _, rfl, rfl, by rw [Hn5.out]; omega, hr6, ho6, by rw [if_pos rfl]; unfold Bts.rest; rw [if_pos rfl, if_pos Hb0.out, List.drop_drop]⟩
          · have k0' : (kk == 0) = false := by simpa using k0
            by_cases k1 : kk = 1
            · have k1' : (kk == 1) = true := by simpa using k1
              clear k0 k1
              go_wp2_with fail
              refine (ref_ReadNum a5 n5 c5 (Bts.rest b r) _ hrr hnc5 (by omega)).mono ?_
              rintro e w6 ⟨rfl, rfl⟩
              go_wp2_with fail
              refine (bits_RNum k b r _ hrd (by omega)).mono ?_
              rw [Hq1.out]
              rintro e w6 ⟨rfl, hr6, ho6⟩
              go_wp2_with fail
              go_meet
              exact ⟨(Bts.numF (Bts.rest b r)).2.1, (Bts.numR b r).2, rfl, by rw [Hq2.out], by rw [Hn5.out]; exact Hq3.out, hr6, ho6, by rw [Hq2.out]; exact Hq4.out⟩
            · have k1' : (kk == 1) = false := by simpa using k1
              clear k0 k1
              go_wp2_with fail
              refine (ref_ReadInt a5 n5 c5 (Bts.rest b r) _ hrr hnc5 (by omega)).mono ?_
              rintro e w6 ⟨rfl, rfl⟩
              go_wp2_with fail
              refine (bits_RInt k b r _ hrd (by omega)).mono ?_
              unfold Bts.intR
              rw [Hq1.out]
              rintro e w6 ⟨rfl, hr6, ho6⟩
              go_wp2_with fail
              go_meet
              exact ⟨(Bts.numF (Bts.rest b r)).2.1, (Bts.numR b r).2, rfl, by rw [Hq2.out], by rw [Hn5.out]; exact Hq3.out, hr6, ho6, by rw [Hq2.out]; exact Hq4.out⟩
        · have hbb : (r.bad == 0) = false := by simpa using hb0
          have hgs := Bts.get_stop b r nn hb0
          have hns : Bts.numR b r = (0#64, r) := by unfold Bts.numR; rw [if_pos hb0]
          have his : Bts.intR b r = (0, r) := by unfold Bts.intR; rw [hns]; simp [Bts.unzig]
          have hrn : Bts.rest b r = (if r.bad = 0 then (Bts.rest b r).drop 0 else []) := by rw [if_neg hb0]; unfold Bts.rest; rw [if_neg hb0]
          have Hgs := Lib.hid hgs
          have Hns := Lib.hid hns
          have His := Lib.hid his
          have Hrn := Lib.hid hrn
          clear hgs hns his hrn hb0
          by_cases k0 : kk = 0
          · have k0' : (kk == 0) = true := by simpa using k0
            clear k0
            go_wp2_with fail
            refine (bits_Get k b r nn _ hrd (by omega) hnn).mono ?_
            rw [Hgs.out]
            rintro e w6 ⟨rfl, hr6, ho6⟩
            simp only [hv0]
            go_wp2_with fail
            go_meet
            exact ⟨0, r, rfl, rfl, Nat.zero_le _, hr6, ho6, Hrn.out⟩
          · have k0' : (kk == 0) = false := by simpa using k0
            by_cases k1 : kk = 1
            · have k1' : (kk == 1) = true := by simpa using k1
              clear k0 k1
              go_wp2_with fail
              refine (bits_RNum k b r _ hrd (by omega)).mono ?_
              rw [Hns.out]
              rintro e w6 ⟨rfl, hr6, ho6⟩
              simp only [hv0]
              go_wp2_with fail
              go_meet
              exact ⟨0, r, rfl, rfl, Nat.zero_le _, hr6, ho6, Hrn.out⟩
            · have k1' : (kk == 1) = false := by simpa using k1
              clear k0 k1
              go_wp2_with fail
              refine (bits_RInt k b r _ hrd (by omega)).mono ?_
              rw [His.out]
              rintro e w6 ⟨rfl, hr6, ho6⟩
              go_wp2_with fail
              go_meet
              exact ⟨0, r, rfl, rfl, Nat.zero_le _, hr6, ho6, Hrn.out⟩
      obtain ⟨mm, r', rfl, rfl, hmm, hr6, ho6, hrest⟩ := hcut
      obtain ⟨wx, hwx⟩ : ∃ x, x = wc := ⟨_, rfl⟩
      subst hwx
      have hsl5 := sl_thru (by decide) hrs ho6
      obtain ⟨a6, hsl6, hrs6⟩ := slice_ok ti_bytes (c := c5) (i := mm) (by rw [Bts.asB_len]; exact Hn5.out) hsl5 hmm hnc5
      by_cases hb' : r'.bad = 0
      · have hbn : (r'.bad != 0) = false := by simp [hb']
        rw [if_pos hb'] at hrest
        have Hrest := Lib.hid hrest
        have Hb' := Lib.hid hb'
        clear hrest hb'
        go_wp2_with fail
        refine (bits_Err k b r' _ hr6).mono ?_
        rintro e w7 ⟨rfl, rfl⟩
        go_wp2_with fail
        refine (bits_Left k b r' _ hr6 (by omega)).mono ?_
        rintro e w8 ⟨rfl, hb8⟩
        have hlen : (Bts.left b r' : Int) = ((n5 - mm : Nat) : Int) := by
          rw [← Bts.rest_len, Hrest.out, List.length_drop, ← Hn5.out]
        have hon8 : Only (· = k) wr w8 := ho6.trans (Below.only (S := (· = k)) hb8) fun _ _ h => h
        have hr8 := hr6.keep hb8
        go_wp2_with fail
        go_roundw
        case rel =>
          refine ⟨j + 1, r', a6, n5 - mm, c5 - mm, by omega, by go_num, rfl, rfl, ?_, by omega, by omega, ?_, hr8, hon.trans hon8 fun _ _ h => h⟩
          · rw [Hrest.out, List.length_drop, ← Hn5.out]
          · have := hrs6.below (by decide) hb8
            rw [Hrest.out]; simpa [Bts.asB] using this
        case measure => simp [intOf]; omega
      · have hbn : (r'.bad != 0) = true := by simp [hb']
        rw [if_neg hb'] at hrest
        have Hrest := Lib.hid hrest
        have Hb' := Lib.hid hb'
        clear hrest hb'
        go_wp2_with fail
        refine (bits_Err k b r' _ hr6).mono ?_
        rintro e w7 ⟨rfl, rfl⟩
        go_wp2_with fail
        refine (bits_Left k b r' _ hr6 (by omega)).mono ?_
        rintro e w8 ⟨rfl, hb8⟩
        have hlen : (Bts.left b r' : Int) = 0 := by
          rw [← Bts.rest_len, Hrest.out]; rfl
        have hon8 : Only (· = k) wr w8 := ho6.trans (Below.only (S := (· = k)) hb8) fun _ _ h => h
        have hr8 := hr6.keep hb8
        go_wp2_with fail
        go_roundw
        case rel =>
          refine ⟨j + 1, r', none, 0, 0, by omega, by go_num, rfl, rfl, ?_, by omega, by omega, ?_, hr8, hon.trans hon8 fun _ _ h => h⟩
          · rw [Hrest.out]; rfl
          · rw [Hrest.out]; exact Sl.nil _ _ _ _
        case measure => simp [intOf]; omega
    · have hji : ¬ ((j : Int) < (ks.length : Int)) := by omega
      have hsz := sl_thru (by decide) hsk hon
      have hr2z := sl_thru (by decide) hr2k hon
      obtain ⟨wz, hwz⟩ : ∃ x, x = wr := ⟨_, rfl⟩
      subst hwz
      have Hn5 := Lib.hid hn5
      clear hn5
      by_cases hb0 : r.bad = 0
      · have hbb : (r.bad == 0) = true := by simpa using hb0
        have Hb0 := Lib.hid hb0
        have hend : Bts.endR b r = (if 7 < n5 ∨ (Bts.rest b r).any id = true then 12 else 0) := by unfold Bts.endR; rw [if_neg (by simp [hb0]), ← Hn5.out]
        have Hend := Lib.hid hend
        clear hb0 hend
        generalize Bts.rest b r = l at hrs Hn5 Hend
        by_cases h7 : 7 < n5
        · have h7' : (7 : Int) < (n5 : Int) := by omega
          go_wp2_with fail
          go_loop [18, 124] (fun e i => ∃ t : Nat, t ≤ n5 ∧ i = .int .i64 t ∧ e = .int .i64 (if 7 < n5 ∨ (l.take t).any id = true then 12 else 0)) (fun _ i => n5 - (intOf i).toNat)
          case atStart => exact ⟨0, Nat.zero_le _, rfl, by rw [if_pos (Or.inl h7)]⟩
          case round =>
            obtain ⟨t, ht, rfl, rfl⟩ := hrel
            by_cases hlt : t < n5
            · have hti : (t : Int) < (n5 : Int) := by omega
              have htl : t < l.length := by have := Hn5.out; omega
              obtain ⟨bb, oo, rfl, cb⟩ := SB.at (hrs.any (by decide)) t (by rw [Bts.asB_len]; exact htl)
              rw [Bts.asB_get l t htl] at cb
              have hsn := Bts.any_take l t htl
              obtain ⟨y, hy⟩ : ∃ y, y = (l.take t).any id := ⟨_, rfl⟩
              rw [← hy] at hsn ⊢
              obtain ⟨z, hz⟩ : ∃ z, z = l[t] := ⟨_, rfl⟩
              rw [← hz] at cb hsn
              have Hsn := Lib.hid hsn
              clear hsn hy hz
              cases z
              · have cb' : wz.cell? ⟨bb, oo + t, none⟩ = some (.int .u8 0) := cb
                clear cb
                go_wp2_with fail
                go_round
                case rel => exact ⟨t + 1, by omega, by go_num, by rw [Hsn.out, Bool.or_false]⟩
                case measure => simp [intOf]; omega
              · have cb' : wz.cell? ⟨bb, oo + t, none⟩ = some (.int .u8 1) := cb
                clear cb
                go_wp2_with fail
                go_round
                case rel => exact ⟨t + 1, by omega, by go_num, by rw [Hsn.out, Bool.or_true, if_pos (Or.inr rfl)]⟩
                case measure => simp [intOf]; omega
            · have hti : ¬ ((t : Int) < (n5 : Int)) := by omega
              rw [List.take_of_length_le (by have := Hn5.out; omega), ← Hend.out]
              go_wp2_with fail
              refine (bits_End k b r _ hrd (by omega)).mono ?_
              rintro e w8 ⟨rfl, hb8⟩
              have hr8 := hrd.keep hb8
              go_wp2_with fail
              refine (bits_Err k b r _ hr8).mono ?_
              rintro e w9 ⟨rfl, rfl⟩
              go_wp2_with fail
              refine (ref_Same _ _ _ _ _ _ b b _ ⟨rfl, (hr2z.below (by decide) hb8).any (by decide)⟩ ⟨rfl, (hsz.below (by decide) hb8).any (by decide)⟩).mono ?_
              rintro e w10 ⟨rfl, rfl⟩
              rw [beq_self_eq_true]
              go_wp2_with fail
              go_ret
              exact ⟨rfl, hbwr.trans (hb8.mono hbwr.size)⟩
        · have h7' : ¬ ((7 : Int) < (n5 : Int)) := by omega
          go_wp2_with fail
          go_loop [18, 124] (fun e i => ∃ t : Nat, t ≤ n5 ∧ i = .int .i64 t ∧ e = .int .i64 (if 7 < n5 ∨ (l.take t).any id = true then 12 else 0)) (fun _ i => n5 - (intOf i).toNat)
          case atStart => exact ⟨0, Nat.zero_le _, rfl, by rw [if_neg (by simp [h7]), Hb0.out]⟩
          case round =>
            obtain ⟨t, ht, rfl, rfl⟩ := hrel
            by_cases hlt : t < n5
            · have hti : (t : Int) < (n5 : Int) := by omega
              have htl : t < l.length := by have := Hn5.out; omega
              obtain ⟨bb, oo, rfl, cb⟩ := SB.at (hrs.any (by decide)) t (by rw [Bts.asB_len]; exact htl)
              rw [Bts.asB_get l t htl] at cb
              have hsn := Bts.any_take l t htl
              obtain ⟨y, hy⟩ : ∃ y, y = (l.take t).any id := ⟨_, rfl⟩
              rw [← hy] at hsn ⊢
              obtain ⟨z, hz⟩ : ∃ z, z = l[t] := ⟨_, rfl⟩
              rw [← hz] at cb hsn
              have Hsn := Lib.hid hsn
              clear hsn hy hz
              cases z
              · have cb' : wz.cell? ⟨bb, oo + t, none⟩ = some (.int .u8 0) := cb
                clear cb
                go_wp2_with fail
                go_round
                case rel => exact ⟨t + 1, by omega, by go_num, by rw [Hsn.out, Bool.or_false]⟩
                case measure => simp [intOf]; omega
              · have cb' : wz.cell? ⟨bb, oo + t, none⟩ = some (.int .u8 1) := cb
                clear cb
                go_wp2_with fail
                go_round
                case rel => exact ⟨t + 1, by omega, by go_num, by rw [Hsn.out, Bool.or_true, if_pos (Or.inr rfl)]⟩
                case measure => simp [intOf]; omega
            · have hti : ¬ ((t : Int) < (n5 : Int)) := by omega
              rw [List.take_of_length_le (by have := Hn5.out; omega), ← Hend.out]
              go_wp2_with fail
              refine (bits_End k b r _ hrd (by omega)).mono ?_
              rintro e w8 ⟨rfl, hb8⟩
              have hr8 := hrd.keep hb8
              go_wp2_with fail
              refine (bits_Err k b r _ hr8).mono ?_
              rintro e w9 ⟨rfl, rfl⟩
              go_wp2_with fail
              refine (ref_Same _ _ _ _ _ _ b b _ ⟨rfl, (hr2z.below (by decide) hb8).any (by decide)⟩ ⟨rfl, (hsz.below (by decide) hb8).any (by decide)⟩).mono ?_
              rintro e w10 ⟨rfl, rfl⟩
              rw [beq_self_eq_true]
              go_wp2_with fail
              go_ret
              exact ⟨rfl, hbwr.trans (hb8.mono hbwr.size)⟩
      · have hbb : (r.bad == 0) = false := by simpa using hb0
        have hend : Bts.endR b r = r.bad := by unfold Bts.endR; rw [if_pos hb0]
        have Hend := Lib.hid hend
        clear hb0 hend
        go_wp2_with fail
        refine (bits_End k b r _ hrd (by omega)).mono ?_
        rw [Hend.out]
        rintro e w8 ⟨rfl, hb8⟩
        have hr8 := hrd.keep hb8
        go_wp2_with fail
        refine (bits_Err k b r _ hr8).mono ?_
        rintro e w9 ⟨rfl, rfl⟩
        go_wp2_with fail
        refine (ref_Same _ _ _ _ _ _ b b _ ⟨rfl, (hr2z.below (by decide) hb8).any (by decide)⟩ ⟨rfl, (hsz.below (by decide) hb8).any (by decide)⟩).mono ?_
        rintro e w10 ⟨rfl, rfl⟩
        rw [beq_self_eq_true]
        go_wp2_with fail
        go_ret
        exact ⟨rfl, hbwr.trans (hb8.mono hbwr.size)⟩
end Go.Proofs.Ytpcelfbekcpjmaa

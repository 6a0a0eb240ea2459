
/-
  The document's own reader of numbers.
-/
import Derived.Test.YtdpopdgeipgheaaDoorBtsRefRead
import Derived.Test.YtdpopdgeipgheaaDoorBtsLaws
namespace Go.Proofs.YtdpopdgeipgheaaDoor
open Go.RowKit
set_option linter.unusedVariables false
set_option maxRecDepth 4096

namespace Bts
/-- the number at the front of bits, how many they are, the error -/
def numF (l : Bits) : BitVec 64 × Nat × Int :=
  if 65 ≤ lead l then (0#64, 0, 11)
  else if l.length < 2 * lead l + 1 then (0#64, 0, 10)
  else if lead l = 64 then (if val ((l.drop 65).take 64) = 0#64 then (BitVec.allOnes 64, 129, 0) else (0#64, 0, 11))
  else ((1#64 <<< lead l ||| val ((l.drop (lead l + 1)).take (lead l))) - 1#64, 2 * lead l + 1, 0)
end Bts

set_option maxRecDepth 4096 in
set_option maxHeartbeats 1600000 in
theorem ref_ReadNum (a : Option Addr) (n c : Nat) (l : Bts.Bits) (w : World) (hr : RB w a n (Bts.asB l)) (hc : n ≤ c) (hl : n ≤ 100000000) :
    Calls Tryd.prog 40 #[.slice a n c] w fun e w' => e = .returned (.tuple #[.int .u64 (bv (Bts.numF l).1), .int .i64 (Bts.numF l).2.1, .int .i64 (Bts.numF l).2.2]) ∧ w = w' := by
  obtain ⟨hn, hs⟩ := hr
  rw [Bts.asB_len] at hn
  subst hn
  go_enter Tryd.func40, Tryd.ntmps40
  obtain ⟨res, hres⟩ : ∃ res, res = Bts.numF l := ⟨_, rfl⟩
  rw [← hres]
  unfold Bts.numF at hres
  have Hres := Lib.hid hres
  clear hres
  go_wp2_with fail
  go_loop [5] (fun i => ∃ k : Nat, k ≤ 64 ∧ k ≤ l.length ∧ i = .int .i64 k ∧ ∀ j, j < k → l[j]? = some false) (fun i => 65 - (intOf i).toNat)
  case atStart => exact ⟨0, by omega, Nat.zero_le _, rfl, fun j hj => by omega⟩
  case round =>
    obtain ⟨k, hk, hkl, rfl, hz⟩ := hrel
    have Hz := Lib.hid hz
    clear hz
    by_cases hmore : k < l.length ∧ l[k]? = some false
    · obtain ⟨hlt, hx⟩ := hmore
      have hki : (k : Int) < (l.length : Int) := by omega
      obtain ⟨bb, oo, rfl, cb⟩ := SB.at hs k (by rw [Bts.asB_len]; exact hlt)
      rw [Bts.asB_get l k hlt] at cb
      have hxk : l[k] = false := by rw [List.getElem?_eq_getElem hlt] at hx; exact Option.some.inj hx
      rw [hxk] at cb
      have hbv : bv (Bts.bt false) = (0 : Int) := rfl
      rw [hbv] at cb
      have Hx := Lib.hid hx
      clear hx hxk hbv
      by_cases h64 : k = 64
      · have hlead : 65 ≤ Bts.lead l := Bts.lead_ge fun j hj => by
          rcases Nat.lt_or_ge j k with h | h
          · exact Hz.out j h
          · rw [show j = k by omega]; exact Hx.out
        subst h64
        go_wp2_with fail
        refine bodyPost_ret (v := .tuple #[.int .u64 0, .int .i64 0, .int .i64 11]) (by simp [results, Tryd.results40, go_sem]) rfl ?_
        rw [Hres.out, if_pos hlead]
        exact ⟨rfl, rfl⟩
      · have hk2 : ¬ (64 < (k : Int) + 1) := by omega
        go_wp2_with fail
        go_round
        case rel =>
          refine ⟨k + 1, by omega, by omega, by go_num, fun j hj => ?_⟩
          rcases Nat.lt_or_ge j k with h | h
          · exact Hz.out j h
          · rw [show j = k by omega]; exact Hx.out
        case measure => simp [intOf]; omega
    · have hlead : Bts.lead l = k := Bts.lead_at Hz.out (by
        intro h
        exact hmore ⟨(List.getElem?_eq_some_iff.1 h).1, h⟩)
      have hres2 := Hres.out
      rw [hlead, if_neg (by omega)] at hres2
      have Hres2 := Lib.hid hres2
      clear hres2 Hres hlead
      have i2 : IntKind.i64.wrap (2 * (k : Int)) = 2 * (k : Int) := IntWalk.i64_in _ (by omega)
      have i3 : IntKind.i64.wrap (2 * (k : Int) + 1) = 2 * (k : Int) + 1 := IntWalk.i64_in _ (by omega)
      -- the test of the loop
      go_upto_region 2 with fail
      go_cut [20] (fun s wx => s = .bool false ∧ wx = w)
      case first =>
        by_cases hlt : k < l.length
        · have hki : (k : Int) < (l.length : Int) := by omega
          obtain ⟨bb, oo, rfl, cb⟩ := SB.at hs k (by rw [Bts.asB_len]; exact hlt)
          rw [Bts.asB_get l k hlt] at cb
          have hxk : l[k] = true := by
            cases h : l[k]
            · exact absurd ⟨hlt, by rw [List.getElem?_eq_getElem hlt, h]⟩ hmore
            · rfl
          rw [hxk] at cb
          have hbv : bv (Bts.bt true) = (1 : Int) := rfl
          rw [hbv] at cb
          clear hxk hbv hmore
          go_wp2_with fail
          go_meet
          exact ⟨rfl, rfl⟩
        · have hki : ¬ ((k : Int) < (l.length : Int)) := by omega
          clear hmore
          go_wp2_with fail
          go_meet
          exact ⟨rfl, rfl⟩
      obtain ⟨hs20, hwc⟩ := hcut
      subst hs20
      obtain ⟨wy, hwy⟩ : ∃ x, x = wc := ⟨_, rfl⟩
      subst hwy
      rw [hwc]
      clear hwc hmore
      by_cases hshort : l.length < 2 * k + 1
      · have hsi : (l.length : Int) < 2 * (k : Int) + 1 := by omega
        go_wp2_with fail
        refine bodyPost_ret (v := .tuple #[.int .u64 0, .int .i64 0, .int .i64 10]) (by simp [results, Tryd.results40, go_sem]) rfl ?_
        rw [Hres2.out, if_pos hshort]
        exact ⟨rfl, rfl⟩
      · have hsi : ¬ ((l.length : Int) < 2 * (k : Int) + 1) := by omega
        obtain ⟨a', hrun, r1⟩ := slice_lh ti_bytes (c := c) (i := k + 1) (j := 2 * k + 1) (show RB w a l.length (Bts.asB l) from ⟨by rw [Bts.asB_len], hs⟩) (by omega) (by omega) hc
        rw [show 2 * k + 1 - (k + 1) = k by omega] at hrun r1
        rw [show (((k + 1 : Nat)) : Int) = (k : Int) + 1 by omega, show (((2 * k + 1 : Nat)) : Int) = 2 * (k : Int) + 1 by omega] at hrun
        have e1 : ((Bts.asB l).drop (k + 1)).take k = Bts.asB ((l.drop (k + 1)).take k) := by simp [Bts.asB]
        rw [e1] at r1
        obtain ⟨d, hd⟩ : ∃ d, d = (l.drop (k + 1)).take k := ⟨_, rfl⟩
        rw [← hd] at r1
        have hdl : d.length = k := by rw [hd, List.length_take, List.length_drop]; omega
        have Hd := Lib.hid hd
        have Hdl := Lib.hid hdl
        clear e1 hd hdl
        by_cases h64 : k = 64
        · subst h64
          rw [show ((64 : Nat) : Int) + 1 = 65 by rfl, show 2 * ((64 : Nat) : Int) + 1 = 129 by rfl] at hrun
          have hres3 := Hres2.out
          rw [if_neg hshort, if_pos rfl] at hres3
          have Hres3 := Lib.hid hres3
          clear hres3
          go_wp2_with fail
          refine (ref_value _ _ _ d _ r1 (by omega)).mono ?_
          rintro e w2 ⟨rfl, rfl⟩
          by_cases hv0 : Bts.val d = 0#64
          · rw [hv0]
            have hv : bv (0#64) = (0 : Int) := rfl
            simp only [hv]
            go_wp2_with fail
            refine bodyPost_ret (v := .tuple #[.int .u64 18446744073709551615, .int .i64 129, .int .i64 0]) (by simp [results, Tryd.results40, go_sem]) rfl ?_
            rw [Hres3.out, if_pos (by rw [← hv0, Hd.out])]
            exact ⟨rfl, rfl⟩
          · have hv : (bv (Bts.val d) != 0) = true := by rw [bv64_bne0]; simpa using hv0
            go_wp2_with fail
            refine bodyPost_ret (v := .tuple #[.int .u64 0, .int .i64 0, .int .i64 11]) (by simp [results, Tryd.results40, go_sem]) rfl ?_
            rw [Hres3.out, if_neg (by rw [Hd.out] at hv0; exact hv0)]
            exact ⟨rfl, rfl⟩
        · have hki : ¬ ((k : Int) = 64) := by omega
          have hres3 := Hres2.out
          rw [if_neg hshort, if_neg h64] at hres3
          have Hres3 := Lib.hid hres3
          clear hres3
          go_wp2_with fail
          go_loop [7, 45] (fun x i => ∃ t : Nat, t ≤ k ∧ i = .int .i64 t ∧ x = .int .u64 (bv (Bts.valF 1#64 (d.take t)))) (fun _ i => k - (intOf i).toNat)
          case atStart => exact ⟨0, Nat.zero_le _, rfl, rfl⟩
          case round =>
            obtain ⟨t, ht, rfl, rfl⟩ := hrel
            by_cases htk : t < k
            · have hti : (t : Int) < (k : Int) := by omega
              have htd : t < d.length := by rw [Hdl.out]; exact htk
              obtain ⟨bb, oo, rfl, cb⟩ := SB.at r1.2 t (by rw [Bts.asB_len]; exact htd)
              rw [Bts.asB_get d t htd] at cb
              have hvt := Bts.valF_take 1#64 d t htd
              obtain ⟨y, hy⟩ : ∃ y, y = Bts.valF 1#64 (d.take t) := ⟨_, rfl⟩
              rw [← hy] at hvt ⊢
              obtain ⟨c0, hc0⟩ : ∃ c, c = Bts.bt d[t] := ⟨_, rfl⟩
              rw [← hc0] at hvt cb
              have Hvt := Lib.hid hvt
              have h2 : ∀ z : BitVec 64, BitVec.ofInt 64 (2 * bv z) = z <<< 1 := fun z => by rw [Int.mul_comm]; rw [shl1]; simp
              clear hvt hy hc0
              go_wp2_with fail
              go_round
              case rel => exact ⟨t + 1, by omega, by go_num, by rw [Hvt.out]⟩
              case measure => simp [intOf]; omega
            · obtain rfl : t = k := by omega
              have hdt : d.take t = d := List.take_of_length_le (by rw [Hdl.out]; exact Nat.le_refl _)
              rw [hdt]
              have hvf := Bts.valF_eq 1#64 d
              rw [Hdl.out] at hvf
              have Hvf := Lib.hid hvf
              clear hdt hvf
              go_wp2_with fail
              refine bodyPost_ret (v := .tuple #[.int .u64 (bv (Bts.valF 1#64 d - 1#64)), .int .i64 (2 * (t : Int) + 1), .int .i64 0]) (by simp [results, Tryd.results40, go_sem]) rfl ?_
              rw [Hres3.out, ← Hd.out, Hvf.out]
              exact ⟨by simp, rfl⟩
end Go.Proofs.YtdpopdgeipgheaaDoor


/-
  The reader of bits: 'Num' and 'Int'.
-/
import Derived.Test.YtmmgnbdngpkfcaaBtsTook
namespace Go.Proofs.Ytmmgnbdngpkfcaa
open Go.RowKit
set_option linter.unusedVariables false

namespace Bts
theorem getR_end (b : Bytes) (r : Rd) (k : Nat) (h0 : r.bad = 0) (hk : k = (rest b r).length) (hat : r.at_ ≤ 8 * b.length) : getR b ⟨r.at_ + k, r.bad⟩ 1 = (0#64, ⟨r.at_ + k, 10⟩) := by
  rw [rest_len] at hk
  unfold left at hk
  rw [if_pos h0] at hk
  have hl : left b ⟨r.at_ + k, r.bad⟩ = 0 := by unfold left; rw [if_pos h0]; simp only; omega
  unfold getR
  rw [hl, show clamp 1 = 1 by rfl, if_pos (by omega)]
  unfold failed
  rw [if_pos h0]
theorem getR_one (b : Bytes) (r : Rd) (k : Nat) (x : Bool) (h0 : r.bad = 0) (hx : (rest b r)[k]? = some x) : getR b ⟨r.at_ + k, r.bad⟩ 1 = (if x then 1#64 else 0#64, ⟨r.at_ + (k + 1), r.bad⟩) := by
  have hk := (List.getElem?_eq_some_iff.1 hx).1
  rw [rest_len] at hk
  unfold left at hk
  rw [if_pos h0] at hk
  have hl : left b ⟨r.at_ + k, r.bad⟩ = 8 * b.length - (r.at_ + k) := by unfold left; rw [if_pos h0]
  have hr : (rest b ⟨r.at_ + k, r.bad⟩).take 1 = [x] := by
    unfold rest at hx ⊢
    rw [if_pos h0] at hx ⊢
    rw [List.getElem?_drop] at hx
    obtain ⟨h1, h2⟩ := List.getElem?_eq_some_iff.1 hx
    simp only
    rw [List.drop_eq_getElem_cons h1, h2]; rfl
  unfold getR
  rw [hl, show clamp 1 = 1 by rfl, if_neg (by omega), hr]
  cases x <;> rfl
theorem getR_stopped (b : Bytes) (r : Rd) (h0 : r.bad ≠ 0) : getR b r 1 = (0#64, r) := by
  have hl : left b r = 0 := by unfold left; rw [if_neg h0]
  unfold getR
  rw [hl, show clamp 1 = 1 by rfl, if_pos (by omega)]
  unfold failed
  rw [if_neg h0]
theorem getR_more (b : Bytes) (r : Rd) (k n : Nat) (hn : n ≤ 64) (h0 : r.bad = 0) : getR b ⟨r.at_ + k, r.bad⟩ n = if (rest b r).length < k + n ∧ 0 < n then (0#64, ⟨r.at_ + k, 10⟩) else (val (((rest b r).drop k).take n), ⟨r.at_ + (k + n), 0⟩) := by
  have hc : clamp (n : Int) = n := by unfold clamp; omega
  have hl : left b ⟨r.at_ + k, r.bad⟩ = 8 * b.length - (r.at_ + k) := by unfold left; rw [if_pos h0]
  have hl2 : (rest b r).length = 8 * b.length - r.at_ := by rw [rest_len]; unfold left; rw [if_pos h0]
  have hr : rest b ⟨r.at_ + k, r.bad⟩ = (rest b r).drop k := by
    unfold rest; rw [if_pos h0, if_pos h0, List.drop_drop]
  unfold getR
  rw [hc, hl, hr]
  by_cases h : (rest b r).length < k + n ∧ 0 < n
  · rw [if_pos h, if_pos (by omega)]
    unfold failed; rw [if_pos h0]
  · rw [if_neg h, if_neg (by omega), h0, Nat.add_assoc]
end Bts

theorem RdAt.c2 {ok : Nat → Prop} {w : World} {g : Nat} {b : List (BitVec 8)} {r : Bts.Rd} (h : RdAt ok w g b r) : w.cell? ⟨g, 2, none⟩ = some (.int .i64 r.bad) := by
  obtain ⟨a, c, hh, _⟩ := h
  simp [World.cell?, hh]

set_option maxRecDepth 4096 in
set_option maxHeartbeats 3200000 in
theorem bits_RNum {ok : Nat → Prop} (g : Nat) (b : List (BitVec 8)) (r : Bts.Rd) (w : World) (hr : RdAt ok w g b r) (hl : b.length ≤ 1099511627776) :
    Calls Try.prog 117 #[.pointer (some ⟨g, 0, none⟩)] w fun e w' => e = .returned (.int .u64 (bv (Bts.numR b r).1)) ∧ RdAt ok w' g b (Bts.numR b r).2 ∧ Only (· = g) w w' := by
  have hat : r.at_ ≤ 8 * b.length := by obtain ⟨_, _, _, _, h, _⟩ := hr; exact h
  obtain ⟨res, hres⟩ : ∃ res, res = Bts.numR b r := ⟨_, rfl⟩
  rw [← hres]
  have Hres := Lib.hid hres
  clear hres
  go_enter Try.func117, Try.ntmps117
  go_wp2_with fail
  go_loopw [3] (fun i wr => ∃ k : Nat, k ≤ 64 ∧ i = .int .i64 k ∧ (∀ j, j < k → (Bts.rest b r)[j]? = some false) ∧ (r.bad ≠ 0 → k = 0) ∧ RdAt ok wr g b ⟨r.at_ + k, r.bad⟩ ∧ Only (· = g) w wr) (fun i _ => 65 - (intOf i).toNat)
  case atStart => exact ⟨0, by omega, rfl, fun j hj => by omega, fun _ => rfl, hr, Only.refl _ _⟩
  case round =>
    obtain ⟨k, hk, rfl, hz, hb0, hrk, hok⟩ := hrel
    have Hz := Lib.hid hz
    clear hz hr
    by_cases hbad : r.bad = 0
    · have Hbad := Lib.hid hbad
      clear hb0
      by_cases hend : k = (Bts.rest b r).length
      · -- nothing is left
        have h1 := Bts.getR_end b r k hbad hend hat
        have hlead : Bts.lead (Bts.rest b r) = k := Bts.lead_at Hz.out (by rw [List.getElem?_eq_none (by omega)]; simp)
        have hfin : res = (0#64, ⟨r.at_ + k, 10⟩) := by
          rw [Hres.out]
          unfold Bts.numR
          rw [if_neg (by simp [hbad]), hlead, if_neg (by omega), if_pos hend]
        have Hfin := Lib.hid hfin
        clear hfin hlead hend
        go_wp2_with fail
        refine (bits_Get g b _ 1 _ hrk hl (by decide)).mono ?_
        rw [h1]
        rintro e w2 ⟨rfl, hr2, ho2⟩
        have c2 := hr2.c2
        dsimp only at c2
        have hv : bv (0#64) = (0 : Int) := rfl
        simp only [hv]
        clear h1 hbad
        go_wp2_with fail
        go_ret
        rw [Hfin.out]
        exact ⟨rfl, hr2, hok.trans ho2 fun _ _ h => h⟩
      · have hlt : k < (Bts.rest b r).length ∨ (Bts.rest b r).length < k := by omega
        have hlt : k < (Bts.rest b r).length := by
          rcases hlt with h | h
          · exact h
          · have := Hz.out (Bts.rest b r).length h
            simp at this
        have hx : (Bts.rest b r)[k]? = some (Bts.rest b r)[k] := List.getElem?_eq_getElem hlt
        have h1 := Bts.getR_one b r k _ hbad hx
        cases hxk : (Bts.rest b r)[k]
        · -- a nought
          rw [hxk] at h1 hx
          simp only [Bool.false_eq_true, if_false] at h1
          have Hx := Lib.hid hx
          have Hlt := Lib.hid hlt
          clear hx hxk hlt
          go_wp2_with fail
          refine (bits_Get g b _ 1 _ hrk hl (by decide)).mono ?_
          rw [h1]
          rintro e w2 ⟨rfl, hr2, ho2⟩
          have c2 := hr2.c2
          dsimp only at c2
          rw [hbad] at c2
          have hv : bv (0#64) = (0 : Int) := rfl
          simp only [hv]
          have ho3 : Only (· = g) w w2 := hok.trans ho2 fun _ _ h => h
          by_cases h64 : k = 64
          · have hlead : 65 ≤ Bts.lead (Bts.rest b r) := Bts.lead_ge fun j hj => by
              rcases Nat.lt_or_ge j k with h | h
              · exact Hz.out j h
              · rw [show j = k by omega]; exact Hx.out
            have hfin : res = (0#64, ⟨r.at_ + 65, 11⟩) := by
              rw [Hres.out]
              unfold Bts.numR
              rw [if_neg (by simp [hbad]), if_pos hlead]
            have Hfin := Lib.hid hfin
            clear hfin hlead h1 hbad hend
            subst h64
            go_wp2_with fail
            refine (bits_fail g b _ 11 _ hr2 (by decide)).mono ?_
            rintro e w4 ⟨rfl, hr4, ho4⟩
            go_wp2_with fail
            go_ret
            rw [Hfin.out]
            refine ⟨rfl, ?_, ho3.trans ho4 fun _ _ h => h⟩
            simpa [Bts.failed, Hbad.out] using hr4
          · have hk1 : IntKind.i64.wrap ((k : Int) + 1) = (k : Int) + 1 := IntWalk.i64_in _ (by omega)
            have hk2 : ¬ (64 < (k : Int) + 1) := by omega
            clear h1 hbad hend
            go_wp2_with fail
            go_roundw
            case rel =>
              refine ⟨k + 1, by omega, by go_num, fun j hj => ?_, fun h => absurd Hbad.out h, hr2, ho3⟩
              rcases Nat.lt_or_ge j k with h | h
              · exact Hz.out j h
              · rw [show j = k by omega]; exact Hx.out
            case measure => simp [intOf]; omega
        · -- the first one
          rw [hxk] at h1 hx
          simp only [if_true] at h1
          have hlead : Bts.lead (Bts.rest b r) = k := Bts.lead_at Hz.out (by rw [hx]; simp)
          have hnum : res = if (Bts.rest b r).length < 2 * k + 1 then (0#64, ⟨r.at_ + (k + 1), 10⟩) else if k = 64 then (if Bts.val (((Bts.rest b r).drop 65).take 64) = 0#64 then (BitVec.allOnes 64, ⟨r.at_ + 129, 0⟩) else (0#64, ⟨r.at_ + 129, 11⟩)) else ((1#64 <<< k ||| Bts.val (((Bts.rest b r).drop (k + 1)).take k)) - 1#64, ⟨r.at_ + (2 * k + 1), 0⟩) := by
            rw [Hres.out]
            unfold Bts.numR
            rw [if_neg (by simp [hbad]), hlead, if_neg (by omega), if_neg hend]
          have h2 := Bts.getR_more b r (k + 1) k hk hbad
          have h3 := Bts.getR_more b r (k + 1) 64 (by omega) hbad
          have Hnum := Lib.hid hnum
          have H2 := Lib.hid h2
          have H3 := Lib.hid h3
          clear hnum hlead hx hxk h2 h3 hend
          go_wp2_with fail
          refine (bits_Get g b _ 1 _ hrk hl (by decide)).mono ?_
          rw [h1]
          rintro e w2 ⟨rfl, hr2, ho2⟩
          have hv : bv (1#64) = (1 : Int) := rfl
          simp only [hv]
          have ho3 : Only (· = g) w w2 := hok.trans ho2 fun _ _ h => h
          clear h1 hrk hok ho2 hbad
          by_cases h64 : k = 64
          · subst h64
            go_wp2_with fail
            refine (bits_Get g b _ 64 _ hr2 hl (by decide)).mono ?_
            have H3' := H3.out
            simp only [Nat.reduceAdd] at H3'
            rw [show ((64 : Nat) : Int) = 64 by rfl] at H3'
            rw [H3']
            by_cases hshort : (Bts.rest b r).length < 129
            · rw [if_pos ⟨hshort, by decide⟩]
              rintro e w4 ⟨rfl, hr4, ho4⟩
              have c2 := hr4.c2
              dsimp only at c2
              have hv : bv (0#64) = (0 : Int) := rfl
              simp only [hv]
              go_wp2_with fail
              go_ret
              rw [Hnum.out, if_pos (by omega)]
              exact ⟨rfl, hr4, ho3.trans ho4 fun _ _ h => h⟩
            · rw [if_neg (by omega)]
              rintro e w4 ⟨rfl, hr4, ho4⟩
              have c2 := hr4.c2
              dsimp only at c2
              by_cases hv0 : Bts.val (((Bts.rest b r).drop 65).take 64) = 0#64
              · have hfin : res = (BitVec.allOnes 64, ⟨r.at_ + 129, 0⟩) := by rw [Hnum.out, if_neg (by omega), if_pos trivial, if_pos hv0]
                have Hfin := Lib.hid hfin
                clear hfin
                rw [hv0]
                have hv : bv (0#64) = (0 : Int) := rfl
                simp only [hv]
                go_wp2_with fail
                go_ret
                rw [Hfin.out]
                exact ⟨by rfl, hr4, ho3.trans ho4 fun _ _ h => h⟩
              · have hfin : res = (0#64, ⟨r.at_ + 129, 11⟩) := by rw [Hnum.out, if_neg (by omega), if_pos trivial, if_neg hv0]
                have Hfin := Lib.hid hfin
                have hv : (bv (Bts.val (((Bts.rest b r).drop 65).take 64)) != 0) = true := by
                  rw [bv64_bne0]; simpa using hv0
                clear hfin hv0
                go_wp2_with fail
                refine (bits_fail g b _ 11 _ hr4 (by decide)).mono ?_
                rintro e w5 ⟨rfl, hr5, ho5⟩
                go_wp2_with fail
                go_ret
                rw [Hfin.out]
                exact ⟨rfl, hr5, (ho3.trans ho4 fun _ _ h => h).trans ho5 fun _ _ h => h⟩
          · have hki : ¬ ((k : Int) = 64) := by omega
            go_wp2_with fail
            refine (bits_Get g b _ k _ hr2 hl (by omega)).mono ?_
            rw [H2.out]
            by_cases hshort : (Bts.rest b r).length < k + 1 + k ∧ 0 < k
            · rw [if_pos hshort]
              rintro e w4 ⟨rfl, hr4, ho4⟩
              have c2 := hr4.c2
              dsimp only at c2
              have hfin : res = (0#64, ⟨r.at_ + (k + 1), 10⟩) := by rw [Hnum.out, if_pos (by omega)]
              have Hfin := Lib.hid hfin
              clear hfin hshort
              go_wp2_with fail
              go_ret
              rw [Hfin.out]
              exact ⟨rfl, hr4, ho3.trans ho4 fun _ _ h => h⟩
            · rw [if_neg hshort]
              rintro e w4 ⟨rfl, hr4, ho4⟩
              have c2 := hr4.c2
              dsimp only at c2
              have hfin : res = ((1#64 <<< k ||| Bts.val (((Bts.rest b r).drop (k + 1)).take k)) - 1#64, ⟨r.at_ + (2 * k + 1), 0⟩) := by rw [Hnum.out, if_neg (by omega), if_neg h64]
              have Hfin := Lib.hid hfin
              clear hfin hshort
              go_wp2_with fail
              go_ret
              rw [Hfin.out, ← ofInt_pow k (by decide)]
              refine ⟨rfl, ?_, ho3.trans ho4 fun _ _ h => h⟩
              rw [show r.at_ + (2 * k + 1) = r.at_ + (k + 1 + k) by omega]; exact hr4
    · -- it stands already
      obtain rfl := hb0 hbad
      have h1 := Bts.getR_stopped b r hbad
      have hfin : res = (0#64, r) := by
        rw [Hres.out]
        unfold Bts.numR
        rw [if_pos hbad]
      have Hfin := Lib.hid hfin
      clear hfin
      go_wp2_with fail
      refine (bits_Get g b _ 1 _ hrk hl (by decide)).mono ?_
      rw [show (⟨r.at_ + 0, r.bad⟩ : Bts.Rd) = r by rfl, h1]
      rintro e w2 ⟨rfl, hr2, ho2⟩
      have c2 := hr2.c2
      have hv : bv (0#64) = (0 : Int) := rfl
      simp only [hv]
      go_wp2_with fail
      go_ret
      rw [Hfin.out]
      exact ⟨rfl, hr2, hok.trans ho2 fun _ _ h => h⟩

theorem unzig_eq (x : BitVec 64) : bits .xor .i64 ((x.toNat : Int) >>> 1) (wrap64 (-(((x.toNat : Int) % 2).bmod 18446744073709551616))) = Bts.unzig x := by
  have h : ∀ a c : Int, bits .xor .i64 a c = IntKind.i64.wrap ((BitVec.ofInt 64 a ^^^ BitVec.ofInt 64 c).toNat : Int) := fun _ _ => rfl
  have hx := x.isLt
  have e1 : ((x.toNat : Int) >>> 1) = ((x.toNat / 2 : Nat) : Int) := by rw [Int.shiftRight_eq_div_pow]; simp
  rw [h, e1]
  unfold Bts.unzig
  by_cases hm : x.toNat % 2 = 1
  · rw [if_pos hm, show ((x.toNat : Int) % 2) = 1 by omega, show wrap64 (-((1 : Int).bmod 18446744073709551616)) = -1 by decide +kernel]
    have e2 : BitVec.ofInt 64 (-1) = BitVec.allOnes 64 := by decide
    rw [e2, BitVec.xor_allOnes, BitVec.toNat_not, BitVec.ofInt_natCast, BitVec.toNat_ofNat, IntKind.wrap_i64]
    omega
  · rw [if_neg hm, show ((x.toNat : Int) % 2) = 0 by omega, show wrap64 (-((0 : Int).bmod 18446744073709551616)) = 0 by decide +kernel]
    have e2 : BitVec.ofInt 64 0 = 0#64 := by decide
    rw [e2, BitVec.xor_zero, BitVec.ofInt_natCast, BitVec.toNat_ofNat, IntKind.wrap_i64]
    omega

namespace Bts
theorem low_any : ∀ n : Fin 8, ∀ c : BitVec 8, (low (c.setWidth 64) n.val).any id = ((c &&& ((1#8 <<< n.val) - 1#8)) != 0#8) := by decide +kernel
theorem rest_last (b : Bytes) (r : Rd) (h0 : r.bad = 0) (n : Nat) (hn : left b r = n) (h7 : n ≤ 7) (hpos : 0 < n) (hl : b.length - 1 < b.length) : rest b r = low (b[b.length - 1].setWidth 64) n := by
  have hll := rest_len b r
  rw [hn] at hll
  unfold left at hn
  rw [if_pos h0] at hn
  apply List.ext_getElem?
  intro i
  by_cases hi : i < n
  · rw [low_get _ _ _ hi]
    unfold rest
    have e : (r.at_ + i) / 8 = b.length - 1 := by omega
    rw [if_pos h0, List.getElem?_drop, bitsOf_get _ _ (by omega), BitVec.getLsbD_setWidth]
    simp only [e]
    have e2 : 7 - (r.at_ + i) % 8 = n - 1 - i := by omega
    rw [e2]
    simp; omega
  · rw [List.getElem?_eq_none (by omega), List.getElem?_eq_none (by rw [low_len]; omega)]
end Bts

set_option maxRecDepth 4096 in
set_option maxHeartbeats 800000 in
theorem bits_RInt {ok : Nat → Prop} (g : Nat) (b : List (BitVec 8)) (r : Bts.Rd) (w : World) (hr : RdAt ok w g b r) (hl : b.length ≤ 1099511627776) :
    Calls Try.prog 127 #[.pointer (some ⟨g, 0, none⟩)] w fun e w' => e = .returned (.int .i64 (Bts.intR b r).1) ∧ RdAt ok w' g b (Bts.intR b r).2 ∧ Only (· = g) w w' := by
  unfold Bts.intR
  obtain ⟨x, hx⟩ : ∃ x, x = (Bts.numR b r).1 := ⟨_, rfl⟩
  have Hx := Lib.hid hx
  rw [← hx]
  clear hx
  go_enter Try.func127, Try.ntmps127
  go_wp2_with fail
  refine (bits_RNum g b r _ hr hl).mono ?_
  rw [← Hx.out]
  rintro e w2 ⟨rfl, hr2, ho2⟩
  go_wp2_with fail
  go_ret
  exact ⟨congrArg (fun i => Ending.returned (.int .i64 i)) (unzig_eq x), hr2, ho2⟩

theorem below_drewN {B : Nat} {w w' : World} (h : Below B w w') : ∀ n, Below B w (w'.drewN n)
  | 0 => h
  | n + 1 => (below_drewN h n).drew

set_option maxRecDepth 4096 in
set_option maxHeartbeats 800000 in
theorem bits_End {ok : Nat → Prop} (g : Nat) (b : List (BitVec 8)) (r : Bts.Rd) (w : World) (hr : RdAt ok w g b r) (hl : b.length ≤ 1099511627776) :
    Calls Try.prog 118 #[.pointer (some ⟨g, 0, none⟩)] w fun e w' => e = .returned (.int .i64 (Bts.endR b r)) ∧ Below w.heap.size w w' := by
  have c2 := hr.c2
  by_cases hbad : r.bad = 0
  · obtain ⟨n, hn⟩ : ∃ n, n = Bts.left b r := ⟨_, rfl⟩
    have hrl := Bts.rest_len b r
    rw [← hn] at hrl
    obtain ⟨res, hres⟩ : ∃ x, x = Bts.endR b r := ⟨_, rfl⟩
    rw [← hres]
    unfold Bts.endR at hres
    rw [if_neg (by simp [hbad]), hrl] at hres
    have Hres := Lib.hid hres
    have hn2 := hn
    unfold Bts.left at hn2
    rw [if_pos hbad] at hn2
    have Hn := Lib.hid hn
    have Hn2 := Lib.hid hn2
    have Hrl := Lib.hid hrl
    clear hres hn hn2 hrl
    go_enter Try.func118, Try.ntmps118
    go_wp2_with fail
    refine (bits_Left g b r _ hr hl).mono ?_
    rw [← Hn.out]
    rintro e w2 ⟨rfl, hb2⟩
    have hr2 := hr.keep hb2
    by_cases h7 : 7 < n
    · have h7' : decide (7 < (n : Int)) = true := by simp; omega
      go_wp2_with fail
      go_quiet (fail)
      go_wp2_with fail
      go_ret
      rw [Hres.out, if_pos (.inl h7)]
      exact ⟨rfl, below_drewN hb2 _⟩
    · have h7' : decide (7 < (n : Int)) = false := by simp; omega
      by_cases h0 : n = 0
      · subst h0
        have hnil : Bts.rest b r = [] := List.eq_nil_of_length_eq_zero Hrl.out
        have Hnil := Lib.hid hnil
        clear hnil
        go_wp2_with fail
        go_quiet (fail)
        go_wp2_with fail
        go_ret
        rw [Hres.out, Hnil.out]
        exact ⟨rfl, below_drewN hb2 _⟩
      · have h0' : decide (0 < (n : Int)) = true := by simp; omega
        have h0'' : decide (0 < n) = true := by simp; omega
        have hbl : b.length - 1 < b.length := by have := Hn2.out; omega
        have hlast := Bts.rest_last b r hbad n Hn.out.symm (by omega) (by omega) hbl
        have hany := Bts.low_any ⟨n, by omega⟩ b[b.length - 1]
        simp only at hany
        rw [← hlast, ← ofInt_pow n (by decide)] at hany
        have Hany := Lib.hid hany
        clear hlast hany
        obtain ⟨a, c, hh, hs, hat, hbd⟩ := hr2
        obtain ⟨bb, oo, rfl, cb⟩ := SB.at hs (b.length - 1) hbl
        have c0 : w2.cell? ⟨g, 0, none⟩ = some (.slice (some ⟨bb, oo, none⟩) b.length c) := by simp [World.cell?, hh]
        have i0 : (0 : Int) ≤ (b.length : Int) - 1 := by omega
        have i1 : (b.length : Int) - 1 < (b.length : Int) := by omega
        have i2 : ((b.length : Int) - 1).toNat = b.length - 1 := by omega
        have i3 : IntKind.i64.wrap ((b.length : Int) - 1) = (b.length : Int) - 1 := IntWalk.i64_in _ (by omega)
        have i4 : (0 : Int) ≤ (n : Int) := by omega
        go_wp2_with fail
        cases hc : (b[b.length - 1] &&& (BitVec.ofInt 8 (2 ^ n) - 1#8) != 0#8)
        · go_quiet (fail)
          go_wp2_with fail
          go_ret
          rw [Hres.out, if_neg (by rw [Hany.out, hc]; simp [h7])]
          exact ⟨rfl, below_drewN hb2 _⟩
        · go_quiet (fail)
          go_wp2_with fail
          go_ret
          rw [Hres.out, if_pos (.inr (by rw [Hany.out, hc]))]
          exact ⟨rfl, below_drewN hb2 _⟩
  · have he : Bts.endR b r = r.bad := by unfold Bts.endR; rw [if_pos hbad]
    have He := Lib.hid he
    clear he
    go_enter Try.func118, Try.ntmps118
    go_wp2_with fail
    go_ret
    rw [He.out]
    exact ⟨rfl, Below.refl _ _⟩
end Go.Proofs.Ytmmgnbdngpkfcaa

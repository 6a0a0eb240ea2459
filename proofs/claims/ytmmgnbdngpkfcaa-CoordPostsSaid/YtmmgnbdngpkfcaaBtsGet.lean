
/-
  The reader of bits: 'Get'.
-/
import Derived.Test.YtmmgnbdngpkfcaaBtsR
namespace Go.Proofs.Ytmmgnbdngpkfcaa
open Go.RowKit
set_option linter.unusedVariables false

set_option maxRecDepth 4096 in
set_option maxHeartbeats 1600000 in
theorem bits_Get {ok : Nat → Prop} (g : Nat) (b : List (BitVec 8)) (r : Bts.Rd) (n : Int) (w : World) (hr : RdAt ok w g b r) (hl : b.length ≤ 1099511627776) (hn : -9223372036854775808 ≤ n ∧ n ≤ 9223372036854775807) :
    Calls Try.prog 144 #[.pointer (some ⟨g, 0, none⟩), .int .i64 n] w fun e w' => e = .returned (.int .u64 (bv (Bts.getR b r n).1)) ∧ RdAt ok w' g b (Bts.getR b r n).2 ∧ Only (· = g) w w' := by
  obtain ⟨m, hm⟩ : ∃ m, m = Bts.clamp n := ⟨_, rfl⟩
  have hm64 : m ≤ 64 := by rw [hm]; exact Bts.clamp_le n
  unfold Bts.getR
  rw [← hm]
  have Hm := Lib.hid hm
  clear hm
  obtain ⟨res, hres⟩ : ∃ res, res = (if Bts.left b r < m then (0#64, Bts.failed r 10) else (Bts.val ((Bts.rest b r).take m), (⟨r.at_ + m, r.bad⟩ : Bts.Rd))) := ⟨_, rfl⟩
  rw [← hres]
  have Hres := Lib.hid hres
  clear hres
  go_enter Try.func144, Try.ntmps144
  go_upto_region 1 with fail
  go_cut [1] (fun s wx => s = .int .i64 (m : Int) ∧ wx = w)
  case first =>
    have hmn : min (max n 0) 64 = (m : Int) := by have := Hm.out; unfold Bts.clamp at this; omega
    go_wp2_with fail
    go_meet
    exact ⟨by first | rfl | rw [hmn], rfl⟩
  obtain ⟨hs6, hwc⟩ := hcut
  subst hs6
  obtain ⟨wy, hwy⟩ : ∃ x, x = wc := ⟨_, rfl⟩
  subst hwy
  rw [hwc]
  clear hwc
  go_wp2_with fail
  refine (bits_Left g b r _ hr hl).mono ?_
  rintro e w1 ⟨rfl, hb1⟩
  have hr1 := hr.keep hb1
  have ho1 : Only (· = g) w w1 := Below.only hb1
  by_cases hlt : Bts.left b r < m
  · have hlt' : ((Bts.left b r : Nat) : Int) < (m : Int) := by omega
    go_wp2_with fail
    refine (bits_fail g b r 10 _ hr1 (by decide)).mono ?_
    rintro e w2 ⟨rfl, hr2, ho2⟩
    go_wp2_with fail
    go_ret
    rw [Hres.out, if_pos hlt]
    exact ⟨rfl, hr2, ho1.trans ho2 fun _ _ h => h⟩
  · have hlt' : ¬ (((Bts.left b r : Nat) : Int) < (m : Int)) := by omega
    have hrl := Bts.rest_len b r
    go_wp2_with fail
    go_loopw [5, 16] (fun x i wr => ∃ j : Nat, j ≤ m ∧ i = .int .i64 j ∧ x = .int .u64 (bv (Bts.val ((Bts.rest b r).take j))) ∧ RdAt ok wr g b ⟨r.at_ + j, r.bad⟩ ∧ Only (· = g) w wr) (fun _ i _ => m - (intOf i).toNat)
    case atStart => exact ⟨0, Nat.zero_le _, rfl, rfl, hr1, ho1⟩
    case round =>
      obtain ⟨j, hj, rfl, rfl, hrj, hoj⟩ := hrel
      by_cases hjm : j < m
      · have hji : (j : Int) < (m : Int) := by omega
        have hbad : r.bad = 0 := by
          unfold Bts.left at hlt
          rcases Decidable.em (r.bad = 0) with h | h
          · exact h
          · rw [if_neg h] at hlt; omega
        have hleft : Bts.left b r = 8 * b.length - r.at_ := by unfold Bts.left; rw [if_pos hbad]
        obtain ⟨p, hp⟩ : ∃ p, p = r.at_ + j := ⟨_, rfl⟩
        have hpb : p < 8 * b.length := by omega
        have hp8 : p / 8 < b.length := by omega
        have hbit := Bts.bitsOf_get b p hp8
        have hrest : (Bts.rest b r)[j]? = some (b[p / 8].getLsbD (7 - p % 8)) := by
          unfold Bts.rest
          rw [if_pos hbad, List.getElem?_drop, ← hp]; exact hbit
        have hjr : j < (Bts.rest b r).length := (List.getElem?_eq_some_iff.1 hrest).1
        have hjv : (Bts.rest b r)[j] = b[p / 8].getLsbD (7 - p % 8) := (List.getElem?_eq_some_iff.1 hrest).2
        have hvt := Bts.val_take (Bts.rest b r) j hjr
        rw [hjv] at hvt
        have Hvt := Lib.hid hvt
        have hrj0 := hrj
        obtain ⟨a, c, hh, hs, hat, hbd⟩ := hrj
        rw [← hp] at hh hat
        obtain ⟨bb, oo, rfl, cb⟩ := SB.at hs (p / 8) hp8
        have c0 : wr.cell? ⟨g, 0, none⟩ = some (.slice (some ⟨bb, oo, none⟩) b.length c) := by simp [World.cell?, hh]
        have c1 : wr.cell? ⟨g, 1, none⟩ = some (.int .i64 p) := by simp [World.cell?, hh]
        have cf : ∀ o, wr.frozen? ⟨g, o, none⟩ = false := fun o => by simp [World.frozen?, hh]
        have i0 : (0 : Int) ≤ (p : Int) / 8 := by omega
        have i1 : (p : Int) / 8 < (b.length : Int) := by omega
        have i2 : ((p : Int) / 8).toNat = p / 8 := by omega
        have i3 : (7 - (p : Int) % 8).toNat = 7 - p % 8 := by omega
        have i4 : (0 : Int) ≤ 7 - (p : Int) % 8 := by omega
        have i5 : IntKind.i64.wrap (7 - (p : Int) % 8) = 7 - (p : Int) % 8 := IntWalk.i64_in _ (by omega)
        have Hp := Lib.hid hp
        clear hp hvt hjv hrest hbit hleft hrl hr hr1 ho1 hb1
        go_upto_region 7 with fail
        go_region_held3 (fun W => W.cell? ⟨g, 0, none⟩ = some (.slice (some ⟨bb, oo, none⟩) b.length c) ∧ W.cell? ⟨g, 1, none⟩ = some (.int .i64 p) ∧ W.cell? ⟨bb, oo + p / 8, none⟩ = some (.int .u8 (bv b[p / 8])))
          (go_keep)
          (fail)
        go_wp2
        go_roundw
        case rel =>
          have h0 := Only.setCell (S := fun x => x = g) (Only.refl _ wr) (p := ⟨g, 1, none⟩) (.inl rfl) (.int .i64 ((p : Int) + 1))
          have hO : Only (· = g) wr (wr.setCell ⟨g, 1, none⟩ (.int .i64 ((p : Int) + 1))).drew := ⟨h0.os, h0.tape, h0.output, h0.size, h0.block⟩
          have hset : RdAt ok (wr.setCell ⟨g, 1, none⟩ (.int .i64 ((p : Int) + 1))).drew g b ⟨r.at_ + (j + 1), r.bad⟩ := by
            have h1 := heap_set (w := wr) hh 1 (.int .i64 ((p : Int) + 1))
            refine hrj0.set (cs := #[]) _ _ (by rw [← Hp.out]; exact hh) ?_ hO (by simp only; have := Hp.out; omega) hbd
            have e : ((r.at_ + (j + 1) : Nat) : Int) = (p : Int) + 1 := by have := Hp.out; omega
            simp only [e]
            show (wr.setCell _ _).heap[g]? = _
            simpa using h1
          refine ⟨j + 1, by omega, by go_num, ?_, hset, hoj.trans hO fun _ _ h => h⟩
          rw [Hvt.out]
          congr 3
          apply BitVec.eq_of_getLsbD_eq
          intro i hi
          rw [BitVec.getLsbD_and, BitVec.getLsbD_ushiftRight, BitVec.getLsbD_setWidth, BitVec.getLsbD_one]
          by_cases hi0 : i = 0
          · subst hi0
            cases hbb : b[p / 8].getLsbD (7 - p % 8)
            · simp
            · simp; omega
          · cases hbb : b[p / 8].getLsbD (7 - p % 8) <;> simp [hi0, BitVec.getLsbD_one]
        case measure => simp [intOf]; omega
      · obtain rfl : j = m := by omega
        go_wp2_with fail
        go_ret
        rw [Hres.out, if_neg hlt]
        exact ⟨rfl, hrj, hoj⟩
end Go.Proofs.Ytmmgnbdngpkfcaa

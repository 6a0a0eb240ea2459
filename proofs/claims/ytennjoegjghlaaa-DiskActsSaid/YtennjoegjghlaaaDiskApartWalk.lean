
/-
  The walk of the law 'DiskApart'.
-/
import Derived.Test.YtennjoegjghlaaaDiskOp
namespace Go.Proofs.Ytennjoegjghlaaa
open Go.RowKit
set_option linter.unusedVariables false

/-- two disks of the law's own, apart -/
structure Two (B : Nat) (F1 F2 : Nat → Prop) (w : World) (g1 g2 : Nat) (D1 D2 : Dk.Dsk) : Prop where
  d1 : DkOwn B F1 w g1 D1
  d2 : DkOwn B F2 w g2 D2
  dis : ∀ k, F1 k → ¬ F2 k
theorem Two.swap {B : Nat} {F1 F2 : Nat → Prop} {w : World} {g1 g2 : Nat} {D1 D2 : Dk.Dsk} (h : Two B F1 F2 w g1 g2 D1 D2) : Two B F2 F1 w g2 g1 D2 D1 := ⟨h.d2, h.d1, fun k h2 h1 => h.dis k h1 h2⟩
theorem Two.keep {B : Nat} {F1 F2 : Nat → Prop} {w w' : World} {g1 g2 : Nat} {D1 D2 : Dk.Dsk} (h : Two B F1 F2 w g1 g2 D1 D2) (hb : Below w.heap.size w w') : Two B F1 F2 w' g1 g2 D1 D2 := ⟨h.d1.keep hb, h.d2.keep hb, h.dis⟩
theorem Two.turn {B : Nat} {F1 F2 F' : Nat → Prop} {w w' : World} {g1 g2 : Nat} {D1 D2 D' : Dk.Dsk} (h : Two B F1 F2 w g1 g2 D1 D2) (ht : Turns F1 w F' w') (ha : DkAt F' w' g1 D') (hok : Dk.Ok D') : Two B F' F2 w' g1 g2 D' D2 ∧ Below B w w' := by
  obtain ⟨h1, hb⟩ := h.d1.turn ht ha hok
  refine ⟨⟨h1, ⟨h.d2.at_.only ht.only fun k h2 h1 => h.dis k h1 h2, h.d2.ok, h.d2.base⟩, fun k hk h2 => ?_⟩, hb⟩
  rcases ht.foot k hk with h3 | h3
  · exact h.dis k h3 h2
  · have := h.d2.flt k h2; omega

namespace Dk
def mine : List (BitVec 8) := [109#8, 105#8, 110#8, 101#8]
def yours : List (BitVec 8) := [121#8, 111#8, 117#8, 114#8, 115#8]
def m1 : Dsk := (app (new 2000) 3 mine).1
def m2 : Dsk := (flush m1 3).1
def y1 : Dsk := (app (new 2000) 0 yours).1
theorem m_e1 : (app (new 2000) 3 mine).2 = 0 := by decide +kernel
theorem m_e2 : (flush m1 3).2 = 0 := by decide +kernel
theorem y_e1 : (app (new 2000) 0 yours).2 = 0 := by decide +kernel
theorem y_rd : read y1 0 = (yours, 0) := by decide +kernel
theorem y_acts : y1.acts = 1 := by decide +kernel
theorem m_ok1 : Ok m1 := ok_app (ok_new 2000) _ _
theorem m_ok2 : Ok m2 := ok_flush m_ok1 _
theorem y_ok1 : Ok y1 := ok_app (ok_new 2000) _ _
/-- what tape 3 holds, and a calm disk -/
structure Inv (D : Dsk) (n : Int) : Prop where
  b : (D.t 3).b = mine
  safe : (D.t 3).safe = 4
  fresh : (D.t 3).fresh = false
  fuse : D.fuse = 0
  down : D.down = false
  acts : 0 ≤ D.acts ∧ D.acts ≤ n
theorem inv_m2 : Inv m2 2 := ⟨by decide +kernel, by decide +kernel, by decide +kernel, by decide +kernel, by decide +kernel, by decide +kernel⟩
theorem Inv.mono {D : Dsk} {n : Int} (h : Inv D n) : Inv D (n + 1) := ⟨h.b, h.safe, h.fresh, h.fuse, h.down, h.acts.1, by have := h.acts.2; omega⟩
theorem Inv.act {D : Dsk} {n : Int} (h : Inv D n) : Inv (act D).1 (n + 1) := by
  unfold Dk.act
  rw [if_neg (by rw [h.fuse]; decide)]
  exact ⟨h.b, h.safe, h.fresh, by show max 0 (D.fuse - 1) = 0; rw [h.fuse]; decide, h.down, by have := h.acts; show 0 ≤ D.acts + 1 ∧ D.acts + 1 ≤ n + 1; omega⟩
theorem Inv.setT {D : Dsk} {n : Int} (h : Inv D n) (t : Nat) (ht : t ≠ 3) (x : Tp) : Inv (setT D t x) n := by
  have e : (Dk.setT D t x).t 3 = D.t 3 := upd_other _ _ _ _ (fun e => ht e.symm)
  exact ⟨by rw [e]; exact h.b, by rw [e]; exact h.safe, by rw [e]; exact h.fresh, h.fuse, h.down, h.acts⟩
theorem err_toNat {D : Dsk} {t : Int} (h : ¬ err D t ≠ 0) (ht : t ≠ 3) : t.toNat ≠ 3 := by
  unfold err at h
  split at h
  · exact absurd (by decide) h
  · omega
theorem Inv.app {D : Dsk} {n : Int} (h : Inv D n) (t : Int) (ht : t ≠ 3) (l : List (BitVec 8)) : Inv (app D t l).1 (n + 1) := by
  unfold Dk.app
  split
  · exact h.mono
  · rename_i he
    split
    · exact h.mono
    · exact (h.setT _ (err_toNat he ht) _).act
theorem Inv.clear {D : Dsk} {n : Int} (h : Inv D n) (t : Int) (ht : t ≠ 3) : Inv (clear D t).1 (n + 1) := by
  unfold Dk.clear
  split
  · exact h.mono
  · rename_i he
    exact (h.setT _ (err_toNat he ht) _).act
theorem Inv.flush {D : Dsk} {n : Int} (h : Inv D n) (t : Int) (ht : t ≠ 3) : Inv (flush D t).1 (n + 1) := by
  unfold Dk.flush
  split
  · exact h.mono
  · rename_i he
    split
    · exact h.act
    · exact h.act.setT _ (err_toNat he ht) _
theorem Inv.crash {D : Dsk} {n : Int} (h : Inv D n) (ks : List Int) : Inv (crash D ks) (n + 1) := by
  have e : crashB (D.t 3) (ks.getD 3 0) = mine := by
    unfold crashB
    rw [h.fresh, h.b, h.safe]
    simp only [Bool.false_eq_true, false_and, if_false]
    rw [List.take_of_length_le]
    have : mine.length = 4 := rfl
    omega
  refine ⟨e, ?_, rfl, rfl, rfl, h.acts.1, by have := h.acts.2; simp only [Dk.crash]; omega⟩
  show (crashB (D.t 3) (ks.getD 3 0)).length = 4
  rw [e]; rfl
theorem Inv.read {D : Dsk} {n : Int} (h : Inv D n) : read D 3 = (mine, 0) := by
  unfold Dk.read err
  rw [h.down]
  show ((D.t 3).b, (0 : Int)) = _
  rw [h.b]
end Dk

set_option maxRecDepth 100000 in
set_option maxHeartbeats 6400000 in
theorem law_DiskApart (a : Option Addr) (c : Nat) (ts : List DStep) (w : World) (hs : Sl EStep (fun _ => True) w a ts) (hc : ts.length ≤ c) (hm : c ≤ maxLen) :
    Calls Try.prog 6 #[.slice a ts.length c] w fun e w' => e = .returned (.bool true) ∧ Below w.heap.size w w' := by
  have kc := fun (w : World) (C : Array Value) (n c : Nat) => Lib.run_convert_bytes_const (P := Try.prog) w 25 5 C n c Try.underlying25 Try.underlying5
  obtain ⟨B, hB⟩ : ∃ B, B = w.heap.size := ⟨_, rfl⟩
  have HB := Lib.hid hB
  rw [← hB]
  clear hB
  go_enter Try.func6, Try.ntmps6
  go_wp2_with fail
  refine (law16_head _).mono ?_
  rintro e w1 ⟨rfl, hb1⟩
  rw [← HB.out] at hb1
  go_wp2_with fail
  obtain ⟨g1, hg1⟩ : ∃ g, g = w1.heap.size := ⟨_, rfl⟩
  refine (disk_New 2000 g1 _ hg1.symm (by decide)).mono ?_
  rintro e w2 ⟨rfl, hd2, hb2, hz2⟩
  have hwg : B ≤ g1 := by have := hb1.size; have := HB.out; omega
  have hD2 : DkOwn B (· = g1) w2 g1 (Dk.new 2000) := ⟨hd2, Dk.ok_new _, fun k hk => by omega⟩
  have hbw2 := hb1.trans (hb2.mono hwg)
  have Hg1 := Lib.hid hg1
  clear hd2 hb2 hb1 hg1
  go_wp2_with fail
  obtain ⟨g2, hg2⟩ : ∃ g, g = w2.heap.size := ⟨_, rfl⟩
  have hg12 : g1 < g2 := by omega
  refine (disk_New 2000 g2 _ hg2.symm (by decide)).mono ?_
  rintro e w3 ⟨rfl, hd3, hb3, hz3⟩
  have hT3 : Two B (· = g1) (· = g2) w3 g1 g2 (Dk.new 2000) (Dk.new 2000) := ⟨hD2.keep (by rw [← hg2]; exact hb3), ⟨hd3, Dk.ok_new _, fun k hk => by omega⟩, fun k h1 h2 => by omega⟩
  have hbw3 := hbw2.trans (hb3.mono (by omega))
  have Hg2 := Lib.hid hg2
  clear hd3 hb3 hbw2 hg2 hz2 hz3 hD2
  go_wp2_with fail
  have hx := alloc_below w3 (.cells #[.int .u8 109, .int .u8 105, .int .u8 110, .int .u8 101] 5 (4, 5))
  have hTx := hT3.keep hx
  refine (disk_Append g1 _ 3 _ _ _ Dk.mine _ hTx.d1.at_ hTx.d1.ok (by decide) (by rfl) (hT3.d1.new_lit (heap_alloc_new w3 _) (by rfl)) (by decide)).mono ?_
  rw [Dk.m_e1]
  rintro e w4 ⟨rfl, F4, ha4, ht4⟩
  obtain ⟨hT4, hb4⟩ := hTx.turn ht4 ha4 Dk.m_ok1
  have hbw4 := (hbw3.trans (hx.mono hT3.d1.size)).trans hb4
  clear hT3 hTx hx ht4 ha4 hbw3 hb4
  go_wp2_with fail
  refine (disk_Flush g1 Dk.m1 3 _ hT4.d1.at_ hT4.d1.ok (by decide +kernel)).mono ?_
  rw [Dk.m_e2]
  rintro e w5 ⟨rfl, ha5, ho5⟩
  obtain ⟨hT5, hb5⟩ := hT4.turn ⟨ho5, fun k hk => .inl hk⟩ ha5 Dk.m_ok2
  have hbw5 := hbw4.trans hb5
  clear hT4 ho5 ha5 hbw4 hb5
  go_wp2_with fail
  have hx := alloc_below w5 (.cells #[.int .u8 121, .int .u8 111, .int .u8 117, .int .u8 114, .int .u8 115] 5 (5, 6))
  have hTx := (hT5.keep hx).swap
  refine (disk_Append g2 _ 0 _ _ _ Dk.yours _ hTx.d1.at_ hTx.d1.ok (by decide) (by rfl) (hT5.d2.new_lit (heap_alloc_new w5 _) (by rfl)) (by decide)).mono ?_
  rw [Dk.y_e1]
  rintro e w6 ⟨rfl, F6, ha6, ht6⟩
  obtain ⟨hT6', hb6⟩ := hTx.turn ht6 ha6 Dk.y_ok1
  have hT6 : Two B F4 F6 w6 g1 g2 Dk.m2 Dk.y1 := hT6'.swap
  have hbw6 := (hbw5.trans (hx.mono hT5.d1.size)).trans hb6
  clear hT5 hTx hx ht6 ha6 hbw5 hb6 hT6'
  go_wp2_with fail
  go_loopw [5] (fun i wr => ∃ (j : Nat) (F1 F2 : Nat → Prop) (D : Dk.Dsk), i = .int .i64 j ∧ j ≤ ts.length ∧ j ≤ 40 ∧ Two B F1 F2 wr g1 g2 D Dk.y1 ∧ Dk.Inv D (2 + j) ∧ Below B w wr) (fun i _ => 64 - (intOf i).toNat)
  case atStart => exact ⟨0, F4, F6, Dk.m2, rfl, Nat.zero_le _, by decide, hT6, Dk.inv_m2, hbw6⟩
  case round =>
    clear hT6 hbw6
    obtain ⟨j, F1, F2, D, rfl, hj, hj40, hT, hI, hbw⟩ := hrel
    by_cases hlt : j < ts.length
    · have hji : (j : Int) < (ts.length : Int) := by omega
      obtain ⟨b5, o5, aB, cB, aK, cK, rfl, p0, p1, p2, p3, p4, q0, q1, q2, hcB, hmB, hsB, hcK, hmK, hsK⟩ := sl_step hs j hlt
      have hbk : wr.heap[b5]? = w.heap[b5]? := hbw.block b5 (by rw [HB.out]; exact cell_lt p0)
      replace p0 := (cell_keep hbk).trans p0
      replace p1 := (cell_keep hbk).trans p1
      replace p2 := (cell_keep hbk).trans p2
      replace p3 := (cell_keep hbk).trans p3
      replace p4 := (cell_keep hbk).trans p4
      clear hbk
      by_cases hj4 : (j : Int) < 40
      · have hj4' : decide ((j : Int) < 40) = true := by simpa using hj4
        obtain ⟨t, ht⟩ : ∃ t, t = ts[j] := ⟨_, rfl⟩
        rw [← ht] at p0 p1 p2 p3 p4 q0 q1 q2 hcB hsB hcK hsK
        clear ht
        obtain ⟨kk, tt, nn, bs, ks⟩ := t
        dsimp only at p0 p1 p2 p3 p4 q0 q1 q2 hcB hsB hcK hsK
        obtain ⟨w4, hw4⟩ : ∃ x, x = wr.alloc (.cells #[.int .i64 kk, .int .i64 tt, .int .i64 nn, .slice aB bs.length cB, .slice aK ks.length cK] 45) := ⟨_, rfl⟩
        have hb4 : Below wr.heap.size wr w4 := by subst hw4; exact (Below.refl _ _).alloc (Nat.le_refl _) _
        have hh4 : w4.heap[wr.heap.size]? = some (.cells #[.int .i64 kk, .int .i64 tt, .int .i64 nn, .slice aB bs.length cB, .slice aK ks.length cK] 45 (0, 0)) := by subst hw4; exact heap_alloc_new wr _
        obtain ⟨s0, hs0⟩ : ∃ s, s = wr.heap.size := ⟨_, rfl⟩
        rw [← hs0] at hh4
        have z0 : w4.cell? ⟨s0, 0, none⟩ = some (.int .i64 kk) := by simp [World.cell?, hh4]
        have z1 : w4.cell? ⟨s0, 1, none⟩ = some (.int .i64 tt) := by simp [World.cell?, hh4]
        have z2 : w4.cell? ⟨s0, 2, none⟩ = some (.int .i64 nn) := by simp [World.cell?, hh4]
        have z3 : w4.cell? ⟨s0, 3, none⟩ = some (.slice aB bs.length cB) := by simp [World.cell?, hh4]
        have z4 : w4.cell? ⟨s0, 4, none⟩ = some (.slice aK ks.length cK) := by simp [World.cell?, hh4]
        have hT4 := hT.keep hb4
        have hbw4 := hbw.trans (hb4.mono hT.d1.size)
        have hsB4 : Sl EU8 (fun k => ¬ F1 k) w4 aB bs := hT4.d1.outside (by decide) hsB HB.out.symm hbw4
        have hsK4 : Sl EInt (fun k => ¬ F1 k) w4 aK ks := hT4.d1.outside (by decide) hsK HB.out.symm hbw4
        have Hs0 := Lib.hid hs0
        clear hs0 hh4 hsB hsK hb4 hT hbw
        have hlen : ((bs.length : Int) ≤ 100) ∨ 100 < (bs.length : Int) := by omega
        have hA := hI.acts
        have HI := Lib.hid hI
        clear hI
        by_cases t3 : tt = 3
        · have t3' : (tt == 3) = true := by simpa using t3
          clear t3
          go_upto_region 11 with fail
          rw [← hw4, ← Hs0.out]
          clear hw4
          go_wp2_with fail
          go_roundw
          case rel => exact ⟨j + 1, F1, F2, D, by go_num, by omega, by omega, hT4, by have := HI.out.mono; rw [show (2 : Int) + ((j + 1 : Nat) : Int) = 2 + j + 1 by omega]; exact this, hbw4⟩
          case measure => simp [intOf]; omega
        have t3' : (tt == 3) = false := by simpa using t3
        by_cases hl : 100 < (bs.length : Int)
        · have hl' : decide (100 < (bs.length : Int)) = true := by simpa using hl
          clear hl
          go_upto_region 11 with fail
          rw [← hw4, ← Hs0.out]
          clear hw4
          go_wp2_with fail
          go_roundw
          case rel => exact ⟨j + 1, F1, F2, D, by go_num, by omega, by omega, hT4, by have := HI.out.mono; rw [show (2 : Int) + ((j + 1 : Nat) : Int) = 2 + j + 1 by omega]; exact this, hbw4⟩
          case measure => simp [intOf]; omega
        have hl' : decide (100 < (bs.length : Int)) = false := by simpa using hl
        go_upto_region 11 with fail
        rw [← hw4, ← Hs0.out]
        clear hw4
        by_cases k0 : kk = 0
        · have k0' : (kk == 0) = true := by simpa using k0
          clear k0
          go_wp2_with fail
          refine (disk_Append g1 D tt _ _ cB bs _ hT4.d1.at_ hT4.d1.ok (by omega) rfl hsB4 (by omega)).mono ?_
          rintro e w5 ⟨rfl, F5, ha5, ht5⟩
          obtain ⟨hT5, hb5⟩ := hT4.turn ht5 ha5 (Dk.ok_app hT4.d1.ok tt bs)
          have hI5 := HI.out.app tt t3 bs
          have hbw5 := hbw4.trans hb5
          clear hT4 ha5 ht5 hb5 hbw4
          go_wp2_with fail
          go_roundw
          case rel => exact ⟨j + 1, F5, F2, _, by go_num, by omega, by omega, hT5, by rw [show (2 : Int) + ((j + 1 : Nat) : Int) = 2 + j + 1 by omega]; exact hI5, hbw5⟩
          case measure => simp [intOf]; omega
        have k0' : (kk == 0) = false := by simpa using k0
        by_cases k1 : kk = 1
        · have k1' : (kk == 1) = true := by simpa using k1
          clear k0 k1
          go_wp2_with fail
          refine (disk_Clear g1 D tt _ hT4.d1.at_ hT4.d1.ok (by omega)).mono ?_
          rintro e w5 ⟨rfl, ha5, ho5⟩
          obtain ⟨hT5, hb5⟩ := hT4.turn ⟨ho5, fun k hk => .inl hk⟩ ha5 (Dk.ok_clear hT4.d1.ok tt)
          have hI5 := HI.out.clear tt t3
          have hbw5 := hbw4.trans hb5
          clear hT4 ha5 ho5 hb5 hbw4
          go_wp2_with fail
          go_roundw
          case rel => exact ⟨j + 1, F1, F2, _, by go_num, by omega, by omega, hT5, by rw [show (2 : Int) + ((j + 1 : Nat) : Int) = 2 + j + 1 by omega]; exact hI5, hbw5⟩
          case measure => simp [intOf]; omega
        have k1' : (kk == 1) = false := by simpa using k1
        by_cases k2 : kk = 2
        · have k2' : (kk == 2) = true := by simpa using k2
          clear k0 k1 k2
          go_wp2_with fail
          refine (disk_Flush g1 D tt _ hT4.d1.at_ hT4.d1.ok (by omega)).mono ?_
          rintro e w5 ⟨rfl, ha5, ho5⟩
          obtain ⟨hT5, hb5⟩ := hT4.turn ⟨ho5, fun k hk => .inl hk⟩ ha5 (Dk.ok_flush hT4.d1.ok tt)
          have hI5 := HI.out.flush tt t3
          have hbw5 := hbw4.trans hb5
          clear hT4 ha5 ho5 hb5 hbw4
          go_wp2_with fail
          go_roundw
          case rel => exact ⟨j + 1, F1, F2, _, by go_num, by omega, by omega, hT5, by rw [show (2 : Int) + ((j + 1 : Nat) : Int) = 2 + j + 1 by omega]; exact hI5, hbw5⟩
          case measure => simp [intOf]; omega
        have k2' : (kk == 2) = false := by simpa using k2
        by_cases k5 : kk = 5
        · have k5' : (kk == 5) = true := by simpa using k5
          clear k0 k1 k2 k5
          go_wp2_with fail
          refine (disk_Crash g1 D _ _ cK ks _ hT4.d1.at_ hT4.d1.ok rfl hsK4).mono ?_
          rintro e w5 ⟨rfl, F5, ha5, ht5⟩
          obtain ⟨hT5, hb5⟩ := hT4.turn ht5 ha5 (Dk.ok_crash hT4.d1.ok ks)
          have hI5 := HI.out.crash ks
          have hbw5 := hbw4.trans hb5
          clear hT4 ha5 ht5 hb5 hbw4
          go_wp2_with fail
          go_roundw
          case rel => exact ⟨j + 1, F5, F2, _, by go_num, by omega, by omega, hT5, by rw [show (2 : Int) + ((j + 1 : Nat) : Int) = 2 + j + 1 by omega]; exact hI5, hbw5⟩
          case measure => simp [intOf]; omega
        have k5' : (kk == 5) = false := by simpa using k5
        clear k0 k1 k2 k5
        go_wp2_with fail
        go_roundw
        case rel => exact ⟨j + 1, F1, F2, D, by go_num, by omega, by omega, hT4, by have := HI.out.mono; rw [show (2 : Int) + ((j + 1 : Nat) : Int) = 2 + j + 1 by omega]; exact this, hbw4⟩
        case measure => simp [intOf]; omega
      · have hj4' : decide ((j : Int) < 40) = false := by simpa using hj4
        clear hj4
        go_wp2_with fail
        refine (disk_Read g1 D 3 wr.heap.size _ (by rfl) hT.d1.at_ hT.d1.ok).mono ?_
        rw [hI.read]
        rintro e w7 ⟨v7, rfl, ho7, hb7⟩
        obtain ⟨a7, c7, rfl, hc7, hm7, hr7, _⟩ := ho7.shape 4 (by rfl)
        have hT7 := hT.keep hb7
        have hbw7 := hbw.trans (hb7.mono hT.d1.size)
        have hT7z := hT7.d2.size
        clear hT hbw ho7 hb7 hI
        go_wp2_with fail
        refine (disk_Read g2 Dk.y1 0 w7.heap.size _ (by rfl) hT7.d2.at_ hT7.d2.ok).mono ?_
        rw [Dk.y_rd]
        rintro e w8 ⟨v8, rfl, ho8, hb8⟩
        obtain ⟨a8, c8, rfl, hc8, hm8, hr8, _⟩ := ho8.shape 5 (by rfl)
        have hr78 := hr7.below (by decide) hb8
        have hT8 := hT7.keep hb8
        have hbw8 := hbw7.trans (hb8.mono hT7.d1.size)
        have hm_ : (convert 25 9 (.slice a7 4 c7)).run Try.prog w8 = .ok (.string (strOf Dk.mine)) w8 := run_tostr (P := Try.prog) (w := w8) (c := c7) Try.underlying25 Try.underlying5 Try.underlying9 hr78.2
        have hy_ : (convert 25 9 (.slice a8 5 c8)).run Try.prog w8 = .ok (.string (strOf Dk.yours)) w8 := run_tostr (P := Try.prog) (w := w8) (c := c8) Try.underlying25 Try.underlying5 Try.underlying9 hr8.2
        have es1 : strOf Dk.mine = ⟨#[109, 105, 110, 101]⟩ := by rfl
        have es2 : strOf Dk.yours = ⟨#[121, 111, 117, 114, 115]⟩ := by rfl
        rw [es1] at hm_
        rw [es2] at hy_
        clear hT7 hbw7 ho8 hb8 hr7 es1 es2 hT7z
        go_wp2_with fail
        refine (disk_Acts g2 Dk.y1 _ hT8.d2.at_).mono ?_
        rw [Dk.y_acts]
        rintro e w9 ⟨rfl, rfl⟩
        go_wp2_with fail
        go_ret
        exact ⟨rfl, hbw8⟩
    · have hji : ¬ ((j : Int) < (ts.length : Int)) := by omega
      have hji' : decide ((j : Int) < (ts.length : Int)) = false := by simpa using hji
      clear hlt
      go_wp2_with fail
      refine (disk_Read g1 D 3 wr.heap.size _ (by rfl) hT.d1.at_ hT.d1.ok).mono ?_
      rw [hI.read]
      rintro e w7 ⟨v7, rfl, ho7, hb7⟩
      obtain ⟨a7, c7, rfl, hc7, hm7, hr7, _⟩ := ho7.shape 4 (by rfl)
      have hT7 := hT.keep hb7
      have hbw7 := hbw.trans (hb7.mono hT.d1.size)
      have hT7z := hT7.d2.size
      clear hT hbw ho7 hb7 hI
      go_wp2_with fail
      refine (disk_Read g2 Dk.y1 0 w7.heap.size _ (by rfl) hT7.d2.at_ hT7.d2.ok).mono ?_
      rw [Dk.y_rd]
      rintro e w8 ⟨v8, rfl, ho8, hb8⟩
      obtain ⟨a8, c8, rfl, hc8, hm8, hr8, _⟩ := ho8.shape 5 (by rfl)
      have hr78 := hr7.below (by decide) hb8
      have hT8 := hT7.keep hb8
      have hbw8 := hbw7.trans (hb8.mono hT7.d1.size)
      have hm_ : (convert 25 9 (.slice a7 4 c7)).run Try.prog w8 = .ok (.string (strOf Dk.mine)) w8 := run_tostr (P := Try.prog) (w := w8) (c := c7) Try.underlying25 Try.underlying5 Try.underlying9 hr78.2
      have hy_ : (convert 25 9 (.slice a8 5 c8)).run Try.prog w8 = .ok (.string (strOf Dk.yours)) w8 := run_tostr (P := Try.prog) (w := w8) (c := c8) Try.underlying25 Try.underlying5 Try.underlying9 hr8.2
      have es1 : strOf Dk.mine = ⟨#[109, 105, 110, 101]⟩ := by rfl
      have es2 : strOf Dk.yours = ⟨#[121, 111, 117, 114, 115]⟩ := by rfl
      rw [es1] at hm_
      rw [es2] at hy_
      clear hT7 hbw7 ho8 hb8 hr7 es1 es2 hT7z
      go_wp2_with fail
      refine (disk_Acts g2 Dk.y1 _ hT8.d2.at_).mono ?_
      rw [Dk.y_acts]
      rintro e w9 ⟨rfl, rfl⟩
      go_wp2_with fail
      go_ret
      exact ⟨rfl, hbw8⟩
end Go.Proofs.Ytennjoegjghlaaa


/-
  What the document's own encoder of histories computes.
-/
import Derived.Test.YtennjoegjghlaaaBookSizesWalk
import Derived.Test.YtennjoegjghlaaaBookDec
import Derived.Test.YtennjoegjghlaaaBtsRefText
import Derived.Test.YtennjoegjghlaaaBtsRefRN
import Derived.Test.YtennjoegjghlaaaCar
namespace Go.Proofs.Ytennjoegjghlaaa
open Go.RowKit
set_option linter.unusedVariables false

namespace Bts
theorem low_congr {x y : BitVec 64} {n : Nat} (hn : n ≤ 64) (h : x.toNat % 2 ^ n = y.toNat % 2 ^ n) : low x n = low y n := by
  have h1 : val (low x n) = val (low y n) := BitVec.eq_of_toNat_eq (by rw [val_low x n hn, val_low y n hn, h])
  have h2 := low_val (low x n) (by rw [low_len]; exact hn)
  have h3 := low_val (low y n) (by rw [low_len]; exact hn)
  rw [low_len] at h2 h3
  rw [← h2, ← h3, h1]
theorem low_app (x : BitVec 64) (n k : Nat) : low x (n + k) = low (x >>> k) n ++ low x k := by
  induction n with
  | zero => simp [low]
  | succ n ih =>
    rw [show n + 1 + k = (n + k) + 1 by omega]
    simp only [low, ih, List.cons_append]
    rw [BitVec.getLsbD_ushiftRight, Nat.add_comm k n]
end Bts
namespace Bk
open Bts
theorem put_ev {e : Ev} (h : evOk e) : put (BitVec.ofInt 64 (e.1 - 1)) 2 ++ put (BitVec.ofInt 64 (e.2.1 - 1)) 4 ++ put (BitVec.ofNat 64 e.2.2.length) 4 = put (evNum e) 10 := by
  obtain ⟨⟨h1, h2, h3, h4, h5⟩, _⟩ := id h
  have a1 : (evNum e).toNat = ((e.1 - 1).toNat * 16 + (e.2.1 - 1).toNat) * 16 + e.2.2.length := by
    rw [evNum_eq h, BitVec.toNat_ofNat]; omega
  have e1 : (BitVec.ofInt 64 (e.1 - 1)).toNat = (e.1 - 1).toNat := by rw [BitVec.toNat_ofInt]; omega
  have e2 : (BitVec.ofInt 64 (e.2.1 - 1)).toNat = (e.2.1 - 1).toNat := by rw [BitVec.toNat_ofInt]; omega
  have e3 : (BitVec.ofNat 64 e.2.2.length).toNat = e.2.2.length := by rw [BitVec.toNat_ofNat]; omega
  unfold put
  rw [show clamp 2 = 2 by rfl, show clamp 4 = 4 by rfl, show clamp 10 = 2 + (4 + 4) by rfl, low_app (evNum e) 2 (4 + 4), low_app (evNum e) 4 4, List.append_assoc]
  congr 1
  · refine low_congr (by decide) ?_
    rw [e1, shr, a1]; omega
  · congr 1
    · refine low_congr (by decide) ?_
      rw [e2, shr, a1]; omega
    · refine low_congr (by decide) ?_
      rw [e3, a1]; omega
theorem put_op {o : Op} (h : opOk o) : put (BitVec.ofInt 64 (o.1 - 1)) 1 ++ put (BitVec.ofInt 64 o.2.1) 4 = put (opNum o) 5 := by
  obtain ⟨h1, h2, h3, h4, h5⟩ := id h
  have a1 : (opNum o).toNat = (o.1 - 1).toNat * 16 + o.2.1.toNat := by
    rw [opNum_eq h, BitVec.toNat_ofNat]; omega
  have e1 : (BitVec.ofInt 64 (o.1 - 1)).toNat = (o.1 - 1).toNat := by rw [BitVec.toNat_ofInt]; omega
  have e2 : (BitVec.ofInt 64 o.2.1).toNat = o.2.1.toNat := by rw [BitVec.toNat_ofInt]; omega
  unfold put
  rw [show clamp 1 = 1 by rfl, show clamp 4 = 4 by rfl, show clamp 5 = 1 + 4 by rfl, low_app (opNum o) 1 4]
  congr 1
  · refine low_congr (by decide) ?_
    rw [e1, shr, a1]; omega
  · refine low_congr (by decide) ?_
    rw [e2, a1]; omega
end Bk

set_option maxRecDepth 100000 in
set_option maxHeartbeats 3200000 in
theorem ref06_Bits (B : Nat) (a : Option Addr) (n c : Nat) (l : List Bk.Ev) (w : World) (hB : w.heap.size = B) (hr : RS EEv w a n l) (hok : Bk.esOk l) :
    Calls Try.prog 44 #[.slice a n c] w fun e w' => ∃ v, e = .returned v ∧ Own EU8 5 B w' v (Bts.asB (Bk.esBits l)) ∧ Below B w w' := by
  obtain ⟨rfl, hs⟩ := hr
  obtain ⟨hl4, hall⟩ := hok
  have Hall := Lib.hid hall
  have HB := Lib.hid hB
  clear hall
  go_enter Try.func44, Try.ntmps44
  go_wp2_with fail
  refine (ref_Num (BitVec.ofNat 64 l.length) B _ hB).mono ?_
  rintro e w1 ⟨v1, rfl, ho1, hb1⟩
  obtain ⟨N, hN⟩ : ∃ N, N = Bts.num (BitVec.ofNat 64 l.length) := ⟨_, rfl⟩
  have hNl : N.length ≤ 129 := by rw [hN]; obtain ⟨z, h, hz⟩ := Bts.num_len (BitVec.ofNat 64 l.length); omega
  rw [← hN] at ho1
  have HN := Lib.hid hN
  clear hN hB
  go_wp2_with fail
  go_loopw [3, 14] (fun v i wr => ∃ j : Nat, j ≤ l.length ∧ i = .int .i64 j ∧ Own EU8 5 B wr v (Bts.asB (N ++ Bk.evsBits (l.take j))) ∧ Below B w wr) (fun _ i _ => l.length - (intOf i).toNat)
  case atStart => exact ⟨0, Nat.zero_le _, rfl, by simpa [Bk.evsBits] using ho1, hb1⟩
  case round =>
    clear ho1 hb1
    obtain ⟨j, hj, rfl, ho, hb⟩ := hrel
    by_cases hlt : j < l.length
    · have hji : (j : Int) < (l.length : Int) := by omega
      have hlen : (Bts.asB (N ++ Bk.evsBits (l.take j))).length ≤ 1000000 := by
        have := Bk.evsBits_len (l.take j) fun e he => (Hall.out e (List.mem_of_mem_take he)).1.2.2.2.2
        rw [Bts.asB_len, List.length_append]
        rw [List.length_take] at this
        have h2 : min j l.length * 1618 ≤ 400 * 1618 := Nat.mul_le_mul_right _ (by omega)
        omega
      have hsn := Bk.evsBits_snoc l j hlt
      have hev := Hall.out l[j] (List.getElem_mem hlt)
      obtain ⟨b1, o1, a', c', rfl, p1, p2, p3, hc', hm', hs', r1, r2⟩ := sl_ev hs j hlt
      have kw : ∀ {o : Nat} {u : Value}, w.cell? ⟨b1, o, none⟩ = some u → wr.cell? ⟨b1, o, none⟩ = some u := fun h => cell_thru h (by rw [HB.out]; exact hb)
      have q1 := kw p1
      have q2 := kw p2
      have q3 := kw p3
      clear kw p1 p2 p3
      obtain ⟨x, hx⟩ : ∃ x, x = l[j] := ⟨_, rfl⟩
      rw [← hx] at q1 q2 q3 hs' hc' r1 r2 hsn hev
      clear hx
      obtain ⟨x1, x2, x3⟩ := x
      dsimp only at q1 q2 q3 hs' hc' r1 r2
      have hput := Bk.put_ev hev
      dsimp only at hput
      obtain ⟨⟨d1, d2, d3, d4, d5⟩, d6⟩ := id hev
      dsimp only at d1 d2 d3 d4 d5 d6
      have hBr : B ≤ wr.heap.size := by have := hb.size; rw [HB.out] at this; exact this
      obtain ⟨w4, hw4⟩ : ∃ x, x = wr.alloc (.cells #[.int .i64 x1, .int .i64 x2, .slice a' x3.length c'] 69) := ⟨_, rfl⟩
      have car := Car.start (obj := .cells #[.int .i64 x1, .int .i64 x2, .slice a' x3.length c'] 69) ho hb HB.out
      rw [← hw4] at car
      obtain ⟨s0, hs0⟩ : ∃ s, s = wr.heap.size := ⟨_, rfl⟩
      rw [← hs0] at car
      have Hsn := Lib.hid hsn
      have Hput := Lib.hid hput
      have Hs0 := Lib.hid hs0
      have D6 := Lib.hid d6
      obtain ⟨L, hL⟩ : ∃ L, L = N ++ Bk.evsBits (l.take j) := ⟨_, rfl⟩
      rw [← hL] at car hlen
      have HL := Lib.hid hL
      clear hsn hput d6 hev ho hb hL
      go_upto_region 5 with fail
      rw [← hw4]
      rw [← hs0]
      clear hw4 hs0 q1 q2 q3
      have r00 := car.cell 0 (.int .i64 x1) rfl
      have r01 := car.cell 1 (.int .i64 x2) rfl
      have r02 := car.cell 2 (.slice a' x3.length c') rfl
      go_wp2_with fail
      refine (ref_Put (BitVec.ofInt 64 (x1 - 1)) 2 _ _ (by rfl) (by decide)).mono ?_
      rintro e wpa ⟨vpa, rfl, hpa, hbpa⟩
      obtain ⟨apa, cpa, rfl, sla, carap⟩ := car.call hbpa hpa
      have qa0 := carap.cell 0 (.int .i64 x1) rfl
      have qa1 := carap.cell 1 (.int .i64 x2) rfl
      have qa2 := carap.cell 2 (.slice a' x3.length c') rfl
      clear car hpa hbpa
      go_wp2_with (first
        | (refine wpList_app EU8 rfl rfl (by rfl) (by rfl) ti_bytes carap.own rfl sla (app_max (by omega) (Nat.le_trans (put_asB _ _) (by decide))) (app_bytes (by omega) (Nat.le_trans (put_asB _ _) (by decide))) carap.size ?_
           intro vqa wqa hoa hga hva hba
           have cara := carap.app hoa hga hva hba
           have ra0 := cara.cell 0 (.int .i64 x1) rfl
           have ra1 := cara.cell 1 (.int .i64 x2) rfl
           have ra2 := cara.cell 2 (.slice a' x3.length c') rfl
           clear hoa hga hva hba carap qa0 qa1 qa2))
      have hlena : (Bts.asB L ++ Bts.asB (Bts.put (BitVec.ofInt 64 (x1 - 1)) 2)).length ≤ 1000064 := by rw [List.length_append]; have := put_asB (BitVec.ofInt 64 (x1 - 1)) 2; omega
      go_wp2_with fail
      refine (ref_Put (BitVec.ofInt 64 (x2 - 1)) 4 _ _ (by rfl) (by decide)).mono ?_
      rintro e wpb ⟨vpb, rfl, hpb, hbpb⟩
      obtain ⟨apb, cpb, rfl, slb, carbp⟩ := cara.call hbpb hpb
      have qb0 := carbp.cell 0 (.int .i64 x1) rfl
      have qb1 := carbp.cell 1 (.int .i64 x2) rfl
      have qb2 := carbp.cell 2 (.slice a' x3.length c') rfl
      clear cara hpb hbpb
      go_wp2_with (first
        | (refine wpList_app EU8 rfl rfl (by rfl) (by rfl) ti_bytes carbp.own rfl slb (app_max (by omega) (Nat.le_trans (put_asB _ _) (by decide))) (app_bytes (by omega) (Nat.le_trans (put_asB _ _) (by decide))) carbp.size ?_
           intro vqb wqb hob hgb hvb hbb
           have carb := carbp.app hob hgb hvb hbb
           have rb0 := carb.cell 0 (.int .i64 x1) rfl
           have rb1 := carb.cell 1 (.int .i64 x2) rfl
           have rb2 := carb.cell 2 (.slice a' x3.length c') rfl
           clear hob hgb hvb hbb carbp qb0 qb1 qb2))
      have hlenb : (Bts.asB L ++ Bts.asB (Bts.put (BitVec.ofInt 64 (x1 - 1)) 2) ++ Bts.asB (Bts.put (BitVec.ofInt 64 (x2 - 1)) 4)).length ≤ 1000128 := by rw [List.length_append]; have := put_asB (BitVec.ofInt 64 (x2 - 1)) 4; omega
      go_wp2_with fail
      refine (ref_Put (BitVec.ofNat 64 x3.length) 4 _ _ (by rfl) (by decide)).mono ?_
      rintro e wpc ⟨vpc, rfl, hpc, hbpc⟩
      obtain ⟨apc, cpc, rfl, slc, carcp⟩ := carb.call hbpc hpc
      have qc0 := carcp.cell 0 (.int .i64 x1) rfl
      have qc1 := carcp.cell 1 (.int .i64 x2) rfl
      have qc2 := carcp.cell 2 (.slice a' x3.length c') rfl
      clear carb hpc hbpc
      go_wp2_with (first
        | (refine wpList_app EU8 rfl rfl (by rfl) (by rfl) ti_bytes carcp.own rfl slc (app_max (by omega) (Nat.le_trans (put_asB _ _) (by decide))) (app_bytes (by omega) (Nat.le_trans (put_asB _ _) (by decide))) carcp.size ?_
           intro vqc wqc hoc hgc hvc hbc
           have carc := carcp.app hoc hgc hvc hbc
           have rc0 := carc.cell 0 (.int .i64 x1) rfl
           have rc1 := carc.cell 1 (.int .i64 x2) rfl
           have rc2 := carc.cell 2 (.slice a' x3.length c') rfl
           clear hoc hgc hvc hbc carcp qc0 qc1 qc2))
      obtain ⟨L1, hL1⟩ : ∃ L1, L1 = L ++ Bts.put (Bk.evNum (x1, x2, x3)) 10 := ⟨_, rfl⟩
      have hcar : Bts.asB L ++ Bts.asB (Bts.put (BitVec.ofInt 64 (x1 - 1)) 2) ++ Bts.asB (Bts.put (BitVec.ofInt 64 (x2 - 1)) 4) ++ Bts.asB (Bts.put (BitVec.ofNat 64 x3.length) 4) = Bts.asB L1 := by
        rw [hL1, ← Hput.out]; simp only [Bts.asB_app, List.append_assoc]
      rw [hcar] at carc
      have hL1l : (Bts.asB L1).length ≤ 1000010 := by
        rw [hL1, Bts.asB_app, List.length_append]
        have h5 : (Bts.asB (Bts.put (Bk.evNum (x1, x2, x3)) 10)).length = 10 := by rw [Bts.asB_len]; unfold Bts.put; rw [Bts.low_len]; decide
        omega
      have HL1 := Lib.hid hL1
      have hoc := carc.own
      have hbc := carc.below
      clear hL1 hcar carc hlena hlenb
      go_loopw [3, 42] (fun v i wr => ∃ k : Nat, k ≤ x3.length ∧ i = .int .i64 k ∧ Own EU8 5 B wr v (Bts.asB (L1 ++ Bk.opsBits (x3.take k))) ∧ Below B w wr) (fun _ i _ => x3.length - (intOf i).toNat)
      case atStart => exact ⟨0, Nat.zero_le _, rfl, by simpa [Bk.opsBits] using hoc, hbc⟩
      case round =>
        clear hoc hbc
        obtain ⟨k, hk, rfl, ho, hb⟩ := hrel
        by_cases hlk : k < x3.length
        · have hki : (k : Int) < (x3.length : Int) := by omega
          have hlen2 : (Bts.asB (L1 ++ Bk.opsBits (x3.take k))).length ≤ 1002000 := by
            have h1 := Bk.opsBits_len (x3.take k)
            rw [List.length_take] at h1
            rw [Bts.asB_len] at hL1l
            rw [Bts.asB_len, List.length_append]
            have h2 : min k x3.length * 134 ≤ 12 * 134 := Nat.mul_le_mul_right _ (by omega)
            omega
          have hsn := Bk.opsBits_snoc x3 k hlk
          have hok := D6.out x3[k] (List.getElem_mem hlk)
          obtain ⟨b3, o3, rfl, p1, p2, p3, r4, r5, r6⟩ := sl_op hs' k hlk
          have kw : ∀ {o : Nat} {u : Value}, w.cell? ⟨b3, o, none⟩ = some u → wr.cell? ⟨b3, o, none⟩ = some u := fun h => cell_thru h (by rw [HB.out]; exact hb)
          have q1 := kw p1
          have q2 := kw p2
          have q3 := kw p3
          clear kw p1 p2 p3
          obtain ⟨y, hy⟩ : ∃ y, y = x3[k] := ⟨_, rfl⟩
          rw [← hy] at q1 q2 q3 hsn hok r4 r5 r6
          clear hy
          obtain ⟨y1, y2, y3⟩ := y
          dsimp only at q1 q2 q3 r4 r5 r6
          have hput := Bk.put_op hok
          dsimp only at hput
          obtain ⟨g1, g2, g3, g4, g5⟩ := hok
          dsimp only at g1 g2 g3 g4 g5
          obtain ⟨w8, hw8⟩ : ∃ x, x = wr.alloc (.cells #[.int .i64 y1, .int .i64 y2, .int .i64 y3] 79) := ⟨_, rfl⟩
          have car := Car.start (obj := .cells #[.int .i64 y1, .int .i64 y2, .int .i64 y3] 79) ho hb HB.out
          rw [← hw8] at car
          obtain ⟨s1, hs1⟩ : ∃ s, s = wr.heap.size := ⟨_, rfl⟩
          rw [← hs1] at car
          have Hsn1 := Lib.hid hsn
          have Hput1 := Lib.hid hput
          clear hsn hput ho hb g5
          go_upto_region 11 with fail
          rw [← hw8]
          rw [← hs1]
          clear hw8 hs1 q1 q2 q3
          have hy1 : -9223372036854775808 ≤ y1 - 1 ∧ y1 - 1 ≤ 9223372036854775807 := by omega
          have r00 := car.cell 0 (.int .i64 y1) rfl
          have r01 := car.cell 1 (.int .i64 y2) rfl
          have r02 := car.cell 2 (.int .i64 y3) rfl
          go_wp2_with fail
          refine (ref_Put (BitVec.ofInt 64 (y1 - 1)) 1 _ _ (by rfl) (by decide)).mono ?_
          rintro e wpd ⟨vpd, rfl, hpd, hbpd⟩
          obtain ⟨apd, cpd, rfl, sld, cardp⟩ := car.call hbpd hpd
          have qd0 := cardp.cell 0 (.int .i64 y1) rfl
          have qd1 := cardp.cell 1 (.int .i64 y2) rfl
          have qd2 := cardp.cell 2 (.int .i64 y3) rfl
          clear car hpd hbpd
          go_wp2_with (first
            | (refine wpList_app EU8 rfl rfl (by rfl) (by rfl) ti_bytes cardp.own rfl sld (app_max (by omega) (Nat.le_trans (put_asB _ _) (by decide))) (app_bytes (by omega) (Nat.le_trans (put_asB _ _) (by decide))) cardp.size ?_
               intro vqd wqd hod hgd hvd hbd
               have card := cardp.app hod hgd hvd hbd
               have rd0 := card.cell 0 (.int .i64 y1) rfl
               have rd1 := card.cell 1 (.int .i64 y2) rfl
               have rd2 := card.cell 2 (.int .i64 y3) rfl
               clear hod hgd hvd hbd cardp qd0 qd1 qd2))
          have hlend : (Bts.asB (L1 ++ Bk.opsBits (x3.take k)) ++ Bts.asB (Bts.put (BitVec.ofInt 64 (y1 - 1)) 1)).length ≤ 1002064 := by rw [List.length_append]; have := put_asB (BitVec.ofInt 64 (y1 - 1)) 1; omega
          go_wp2_with fail
          refine (ref_Put (BitVec.ofInt 64 y2) 4 _ _ (by rfl) (by decide)).mono ?_
          rintro e wpe ⟨vpe, rfl, hpe, hbpe⟩
          obtain ⟨ape, cpe, rfl, sle, carep⟩ := card.call hbpe hpe
          have qe0 := carep.cell 0 (.int .i64 y1) rfl
          have qe1 := carep.cell 1 (.int .i64 y2) rfl
          have qe2 := carep.cell 2 (.int .i64 y3) rfl
          clear card hpe hbpe
          go_wp2_with (first
            | (refine wpList_app EU8 rfl rfl (by rfl) (by rfl) ti_bytes carep.own rfl sle (app_max (by omega) (Nat.le_trans (put_asB _ _) (by decide))) (app_bytes (by omega) (Nat.le_trans (put_asB _ _) (by decide))) carep.size ?_
               intro vqe wqe hoe hge hve hbe
               have care := carep.app hoe hge hve hbe
               have re0 := care.cell 0 (.int .i64 y1) rfl
               have re1 := care.cell 1 (.int .i64 y2) rfl
               have re2 := care.cell 2 (.int .i64 y3) rfl
               clear hoe hge hve hbe carep qe0 qe1 qe2))
          have hlene : (Bts.asB (L1 ++ Bk.opsBits (x3.take k)) ++ Bts.asB (Bts.put (BitVec.ofInt 64 (y1 - 1)) 1) ++ Bts.asB (Bts.put (BitVec.ofInt 64 y2) 4)).length ≤ 1002128 := by rw [List.length_append]; have := put_asB (BitVec.ofInt 64 y2) 4; omega
          go_wp2_with fail
          refine (ref_Num (BitVec.ofInt 64 y3) _ _ (by rfl)).mono ?_
          rintro e wpf ⟨vpf, rfl, hpf, hbpf⟩
          obtain ⟨apf, cpf, rfl, slf, carfp⟩ := care.call hbpf hpf
          have qf0 := carfp.cell 0 (.int .i64 y1) rfl
          have qf1 := carfp.cell 1 (.int .i64 y2) rfl
          have qf2 := carfp.cell 2 (.int .i64 y3) rfl
          clear care hpf hbpf
          go_wp2_with (first
            | (refine wpList_app EU8 rfl rfl (by rfl) (by rfl) ti_bytes carfp.own rfl slf (app_max (by omega) (Nat.le_trans (num_asB _) (by decide))) (app_bytes (by omega) (Nat.le_trans (num_asB _) (by decide))) carfp.size ?_
               intro vqf wqf hof hgf hvf hbf
               have carf := carfp.app hof hgf hvf hbf
               have rf0 := carf.cell 0 (.int .i64 y1) rfl
               have rf1 := carf.cell 1 (.int .i64 y2) rfl
               have rf2 := carf.cell 2 (.int .i64 y3) rfl
               clear hof hgf hvf hbf carfp qf0 qf1 qf2))
          go_roundw
          case rel =>
            refine ⟨k + 1, by omega, by go_num, ?_, carf.below⟩
            have := carf.own
            rw [Hsn1.out, Bk.opBits, ← Hput1.out]
            simpa only [Bts.asB_app, List.append_assoc] using this
          case measure => simp [intOf]; omega
        · have hki : ¬ ((k : Int) < (x3.length : Int)) := by omega
          rw [List.take_of_length_le (by omega)] at ho
          go_wp2_with fail
          go_roundw
          case rel =>
            refine ⟨j + 1, by omega, by go_num, ?_, hb⟩
            rw [HL1.out, HL.out] at ho
            rw [Hsn.out, Bk.evBits]
            simpa only [Bts.asB_app, List.append_assoc] using ho
          case measure => simp [intOf]; omega
    · have hji : ¬ ((j : Int) < (l.length : Int)) := by omega
      rw [List.take_of_length_le (by omega)] at ho
      have hes : N ++ Bk.evsBits l = Bk.esBits l := by rw [HN.out, Bk.esBits, BitVec.ofInt_natCast]
      rw [hes] at ho
      clear hes
      go_wp2_with fail
      go_ret
      exact ⟨_, rfl, ho, hb⟩
end Go.Proofs.Ytennjoegjghlaaa

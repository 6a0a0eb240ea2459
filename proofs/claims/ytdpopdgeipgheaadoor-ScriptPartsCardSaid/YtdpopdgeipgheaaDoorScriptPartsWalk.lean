
/-
  The walk of the law 'ScriptParts'.
-/
import Derived.Test.YtdpopdgeipgheaaDoorScrU
import Derived.Deep.RegionHeld3
namespace Go.Proofs.YtdpopdgeipgheaaDoor
open Go.RowKit
set_option linter.unusedVariables false

theorem scr_S16 {W : World} {M t : Nat} {fr : Nat × Nat} {c : Sc.Conf} (h : W.heap[M]? = some (.cells (confCells c) t fr)) :
    W.cell? ⟨M, 0, none⟩ = some (.int .i64 (Sc.cf c 0)) ∧ W.cell? ⟨M, 1, none⟩ = some (.int .i64 (Sc.cf c 1)) ∧ W.cell? ⟨M, 2, none⟩ = some (.int .i64 (Sc.cf c 2)) ∧ W.cell? ⟨M, 3, none⟩ = some (.int .i64 (Sc.cf c 3)) ∧ W.cell? ⟨M, 4, none⟩ = some (.int .i64 (Sc.cf c 4)) ∧ W.cell? ⟨M, 5, none⟩ = some (.int .i64 (Sc.cf c 5)) ∧ W.cell? ⟨M, 6, none⟩ = some (.int .i64 (Sc.cf c 6)) ∧ W.cell? ⟨M, 7, none⟩ = some (.int .i64 (Sc.cf c 7)) ∧ W.cell? ⟨M, 8, none⟩ = some (.int .i64 (Sc.cf c 8)) ∧ W.cell? ⟨M, 9, none⟩ = some (.int .u64 (bv c.2)) ∧ W.cell? ⟨M, 10, none⟩ = some (.int .i64 (Sc.cf c 9)) ∧ W.cell? ⟨M, 11, none⟩ = some (.int .i64 (Sc.cf c 10)) ∧ W.cell? ⟨M, 12, none⟩ = some (.int .i64 (Sc.cf c 11)) ∧ W.cell? ⟨M, 13, none⟩ = some (.int .i64 (Sc.cf c 12)) ∧ W.cell? ⟨M, 14, none⟩ = some (.int .i64 (Sc.cf c 13)) ∧ W.cell? ⟨M, 15, none⟩ = some (.int .i64 (Sc.cf c 14)) := by
  refine ⟨?_, ?_, ?_, ?_, ?_, ?_, ?_, ?_, ?_, ?_, ?_, ?_, ?_, ?_, ?_, ?_⟩ <;> simp [World.cell?, h, confCells]

open Classical in
set_option maxRecDepth 100000 in
set_option maxHeartbeats 6400000 in
theorem law_ScriptParts (cs : Array Value) (x : Sc.Conf) (a1 : Option Addr) (c1 : Nat) (L1 : List Sc.Step) (a2 : Option Addr) (c2 : Nat) (L2 : List Sc.Step) (n : Int) (w : World) (hbd : Bounds w) (hx : EConf.rep (fun _ => True) w cs.toList x)
    (hs1 : Sl EStp (fun _ => True) w a1 L1) (hc1 : L1.length ≤ c1) (hm1 : c1 ≤ maxLen) (hs2 : Sl EStp (fun _ => True) w a2 L2) (hc2 : L2.length ≤ c2) (hm2 : c2 ≤ maxLen) (hn : -9223372036854775808 ≤ n ∧ n ≤ 9223372036854775807) :
    Calls Tryd.prog 6 #[.agg cs, .slice a1 L1.length c1, .slice a2 L2.length c2, .int .i64 n] w fun e w' => e = .returned (.bool true) ∧ Below w.heap.size w w' := by
  obtain ⟨rfl, h15⟩ := conf_val hx
  have hgB := hbd.lt
  obtain ⟨B, hB⟩ : ∃ B, B = w.heap.size := ⟨_, rfl⟩
  rw [← hB] at hgB ⊢
  obtain ⟨w1, hw1⟩ : ∃ y, y = w.alloc (.cells (confCells x) 26) := ⟨_, rfl⟩
  have hh1 : w1.heap[B]? = some (.cells (confCells x) 26 (0, 0)) := by subst hw1; subst hB; exact heap_alloc_new w _
  have hb1 : Below B w w1 := by subst hw1; subst hB; exact (Below.refl _ _).alloc (Nat.le_refl _) _
  have hn1 : w1.heap.size = B + 1 := by subst hw1; subst hB; simp
  have HB := Lib.hid hB
  have Hbd := Lib.hid hbd
  have S1 := Lib.hid hs1
  have S2 := Lib.hid hs2
  have H15 := Lib.hid h15
  have Hh1 := Lib.hid hh1
  have Hb1 := Lib.hid hb1
  have Hn1 := Lib.hid hn1
  have sl : ∀ wx : World, Below B w wx → Sl EStp (fun _ => True) wx a1 L1 ∧ Sl EStp (fun _ => True) wx a2 L2 ∧ Bounds wx := fun wx h => ⟨hs1.below (by decide) (by rw [← hB]; exact h), hs2.below (by decide) (by rw [← hB]; exact h), hbd.below h hgB⟩
  have Sll := Lib.hid sl
  have blk : ∀ wx : World, Below (B + 1) w1 wx → wx.heap[B]? = some (.cells (confCells x) 26 (0, 0)) ∧ Below B w wx ∧ B + 1 ≤ wx.heap.size := fun wx h => ⟨by rw [h.block B (by omega)]; exact hh1, hb1.trans (h.mono (by omega)), by have := h.size; omega⟩
  have Blk := Lib.hid blk
  clear hx h15 hbd hs1 hs2 hh1 hb1 hn1 sl blk
  unfold confCells at hw1 ⊢
  go_enter Tryd.func6, Tryd.ntmps6
  go_upto_region 1 with fail
  rw [← hB, ← hw1]
  clear hw1 hB
  go_wp2_with fail
  refine (law14_head w1 (Sll.out _ Hb1.out).2.2).mono ?_
  rintro e w2 ⟨rfl, hb2⟩
  rw [Hn1.out] at hb2
  have Hb2 := Lib.hid hb2
  clear hb2
  go_wp2_with fail
  refine (law14_big a1 c1 L1 w2 (Sll.out _ (Blk.out _ Hb2.out).2.1).1 hc1).mono ?_
  rintro e w3 ⟨rfl, hb3⟩
  have Hb3 := Lib.hid (Hb2.out.trans (hb3.mono (Blk.out _ Hb2.out).2.2))
  clear hb3
  by_cases g1 : Sc.isBig L1
  · rw [decide_eq_true g1]
    clear g1
    go_wp2_with fail
    go_ret
    exact ⟨rfl, (Blk.out _ Hb3.out).2.1⟩
  rw [decide_eq_false g1]
  obtain ⟨l1, k1⟩ := Sc.small_of g1
  have K1 := Lib.hid k1
  clear g1 k1
  go_wp2_with fail
  refine (law14_big a2 c2 L2 w3 (Sll.out _ (Blk.out _ Hb3.out).2.1).2.1 hc2).mono ?_
  rintro e w4 ⟨rfl, hb4⟩
  have Hb4 := Lib.hid (Hb3.out.trans (hb4.mono (Blk.out _ Hb3.out).2.2))
  clear hb4
  by_cases g2 : Sc.isBig L2
  · rw [decide_eq_true g2]
    clear g2
    go_wp2_with fail
    go_ret
    exact ⟨rfl, (Blk.out _ Hb4.out).2.1⟩
  rw [decide_eq_false g2]
  obtain ⟨l2, k2⟩ := Sc.small_of g2
  have K2 := Lib.hid k2
  clear g2 k2
  have hh4 := (Blk.out _ Hb4.out).1
  have z0 : w4.cell? ⟨B, 0, none⟩ = some (.int .i64 (Sc.cf x 0)) := by simp [World.cell?, hh4, confCells]
  have z1 : w4.cell? ⟨B, 1, none⟩ = some (.int .i64 (Sc.cf x 1)) := by simp [World.cell?, hh4, confCells]
  have z2 : w4.cell? ⟨B, 2, none⟩ = some (.int .i64 (Sc.cf x 2)) := by simp [World.cell?, hh4, confCells]
  have z3 : w4.cell? ⟨B, 3, none⟩ = some (.int .i64 (Sc.cf x 3)) := by simp [World.cell?, hh4, confCells]
  have z4 : w4.cell? ⟨B, 4, none⟩ = some (.int .i64 (Sc.cf x 4)) := by simp [World.cell?, hh4, confCells]
  have z5 : w4.cell? ⟨B, 5, none⟩ = some (.int .i64 (Sc.cf x 5)) := by simp [World.cell?, hh4, confCells]
  have z6 : w4.cell? ⟨B, 6, none⟩ = some (.int .i64 (Sc.cf x 6)) := by simp [World.cell?, hh4, confCells]
  have z7 : w4.cell? ⟨B, 7, none⟩ = some (.int .i64 (Sc.cf x 7)) := by simp [World.cell?, hh4, confCells]
  have z8 : w4.cell? ⟨B, 8, none⟩ = some (.int .i64 (Sc.cf x 8)) := by simp [World.cell?, hh4, confCells]
  have z9 : w4.cell? ⟨B, 9, none⟩ = some (.int .u64 (bv x.2)) := by simp [World.cell?, hh4, confCells]
  have z10 : w4.cell? ⟨B, 10, none⟩ = some (.int .i64 (Sc.cf x 9)) := by simp [World.cell?, hh4, confCells]
  have z11 : w4.cell? ⟨B, 11, none⟩ = some (.int .i64 (Sc.cf x 10)) := by simp [World.cell?, hh4, confCells]
  have z12 : w4.cell? ⟨B, 12, none⟩ = some (.int .i64 (Sc.cf x 11)) := by simp [World.cell?, hh4, confCells]
  have z13 : w4.cell? ⟨B, 13, none⟩ = some (.int .i64 (Sc.cf x 12)) := by simp [World.cell?, hh4, confCells]
  have z14 : w4.cell? ⟨B, 14, none⟩ = some (.int .i64 (Sc.cf x 13)) := by simp [World.cell?, hh4, confCells]
  have z15 : w4.cell? ⟨B, 15, none⟩ = some (.int .i64 (Sc.cf x 14)) := by simp [World.cell?, hh4, confCells]
  clear hh4
  go_wp2_with fail
  refine (script_Check x w4 (Sll.out _ (Blk.out _ Hb4.out).2.1).2.2).mono ?_
  rintro e w5 ⟨rfl, hb5⟩
  have Hb5 := Lib.hid (Hb4.out.trans (hb5.mono (Blk.out _ Hb4.out).2.2))
  clear hb5 z0 z1 z2 z3 z4 z5 z6 z7 z8 z9 z10 z11 z12 z13 z14 z15
  by_cases hk : Sc.check x = 0
  case neg =>
    obtain ⟨z, hz⟩ : ∃ z, z = Sc.check x := ⟨_, rfl⟩
    rw [← hz] at hk ⊢
    have hz0 : (z != 0) = true := by simpa using hk
    clear hz hk
    go_wp2_with fail
    go_ret
    exact ⟨rfl, (Blk.out _ Hb5.out).2.1⟩
  rw [hk]
  have ok1 := Sc.all_ok H15.out hk l1 (stp_ok S1.out)
  have ok2 := Sc.all_ok H15.out hk l2 (stp_ok S2.out)
  obtain ⟨q1, r1⟩ := Sc.enc_of ok1
  obtain ⟨q2, r2⟩ := Sc.enc_of ok2
  have n1 : (Sc.allBits (x, L1)).length ≤ 1000000000 := Nat.le_trans (Sc.small_bits H15.out l1 K1.out) (by decide)
  have n2 : (Sc.allBits (x, L2)).length ≤ 1000000000 := Nat.le_trans (Sc.small_bits H15.out l2 K2.out) (by decide)
  obtain ⟨X, hX⟩ : ∃ X, X = Sc.encOut (x, L1) := ⟨_, rfl⟩
  obtain ⟨Y, hY⟩ : ∃ X, X = Sc.encOut (x, L2) := ⟨_, rfl⟩
  have hsame : (X == Y) = decide (L1 = L2) := by
    rw [hX, hY, r1, r2, Bool.eq_iff_iff, beq_iff_eq, decide_eq_true_eq]
    constructor
    · intro h
      have := Sc.pack_inj ok1 ok2 h
      injection this
    · intro h; rw [h]
  have Q1 := Lib.hid q1
  have Q2 := Lib.hid q2
  have N1 := Lib.hid n1
  have N2 := Lib.hid n2
  have HX := Lib.hid hX
  have HY := Lib.hid hY
  have R1 := Lib.hid r1
  have Ok1 := Lib.hid ok1
  have Hsame := Lib.hid hsame
  have Hk := Lib.hid hk
  clear ok1 ok2 q1 r1 q2 r2 n1 n2 hX hY hsame hk
  have Hh5 := Lib.hid (Blk.out _ Hb5.out).1
  go_wp2_with (first | (refine wpList_loadRow rfl _ _ rfl B rfl (confCells x) _ (0, 0) _ Hh5.out Tryd.underlying26 rfl size_conf ?_))
  refine (script_Encode w5.heap.size x a1 L1.length c1 L1 w5 rfl (Sll.out _ (Blk.out _ Hb5.out).2.1).2.2 H15.out ⟨rfl, (Sll.out _ (Blk.out _ Hb5.out).2.1).1⟩ hc1 hm1 (fun _ => N1.out)).mono ?_
  rintro e w6 ⟨v6, rfl, ho6, hb6⟩
  rw [Q1.out]
  rw [← HX.out] at ho6
  obtain ⟨a6, c6, rfl, hc6, hm6, hr6, _⟩ := ho6.shape X.length rfl
  have Hb6 := Lib.hid (Hb5.out.trans (hb6.mono (Blk.out _ Hb5.out).2.2))
  have Hr6 := Lib.hid hr6
  clear ho6 hb6 hr6 hm6
  have Hh6 := Lib.hid (Blk.out _ Hb6.out).1
  go_wp2_with (first | (refine wpList_loadRow rfl _ _ rfl B rfl (confCells x) _ (0, 0) _ Hh6.out Tryd.underlying26 rfl size_conf ?_))
  refine (script_Encode w6.heap.size x a2 L2.length c2 L2 w6 rfl (Sll.out _ (Blk.out _ Hb6.out).2.1).2.2 H15.out ⟨rfl, (Sll.out _ (Blk.out _ Hb6.out).2.1).2.1⟩ hc2 hm2 (fun _ => N2.out)).mono ?_
  rintro e w7 ⟨v7, rfl, ho7, hb7⟩
  rw [Q2.out]
  rw [← HY.out] at ho7
  obtain ⟨a7, c7, rfl, hc7, hm7, hr7, _⟩ := ho7.shape Y.length rfl
  have Hb7 := Lib.hid (Hb6.out.trans (hb7.mono (Blk.out _ Hb6.out).2.2))
  have Hr67 := Lib.hid (Hr6.out.below (by decide) hb7)
  have Hr7 := Lib.hid hr7
  clear ho7 hb7 hr7 hm7
  go_wp2_with fail
  refine (ref_Same _ _ _ _ _ _ X Y _ Hr67.out Hr7.out).mono ?_
  rw [Hsame.out]
  rintro e w8 ⟨rfl, rfl⟩
  go_wp2_with fail
  refine (law14_list w7.heap.size a1 c1 L1 w7 rfl (Sll.out _ (Blk.out _ Hb7.out).2.1).1 hc1 (by omega)).mono ?_
  rintro e w8 ⟨b1, d1, rfl, e1, e2, e3, hb8⟩
  have Hb8 := Lib.hid (Hb7.out.trans (hb8.mono (Blk.out _ Hb7.out).2.2))
  have E3 := Lib.hid e3
  clear hb8 e3
  go_wp2_with fail
  refine (law14_list w8.heap.size a2 c2 L2 w8 rfl (Sll.out _ (Blk.out _ Hb8.out).2.1).2.1 hc2 (by omega)).mono ?_
  rintro e w9 ⟨b2, d2, rfl, f1, f2, f3, hb9⟩
  have Hb9 := Lib.hid (Hb8.out.trans (hb9.mono (Blk.out _ Hb8.out).2.2))
  have E9 := Lib.hid (E3.out.below (by decide) hb9)
  have F3 := Lib.hid f3
  clear hb9 f3
  go_wp2_with fail
  refine (ref14_Same b1 b2 d1 d2 L1 L2 w9 E9.out F3.out e1 f1 e2).mono ?_
  rintro e w10 ⟨rfl, hb10⟩
  have Hb10 := Lib.hid (Hb9.out.trans (hb10.mono (Blk.out _ Hb9.out).2.2))
  clear hb10
  obtain ⟨dd, hdd⟩ : ∃ d, d = decide (L1 = L2) := ⟨_, rfl⟩
  rw [← hdd]
  have hdn : (dd != dd) = false := by simp
  clear hdd
  obtain ⟨k, hkk⟩ : ∃ k : Nat, (k : Int) = min (max n 0) (L1.length : Int) := ⟨(min (max n 0) (L1.length : Int)).toNat, by omega⟩
  have hkl : k ≤ L1.length := by omega
  have hkk' := hkk.symm
  clear hkk
  obtain ⟨aT, hcutT, hsT⟩ := cutT (Sll.out _ (Blk.out _ Hb10.out).2.1).1 k hkl hc1
  have htl : (L1.take k).length = k := by rw [List.length_take]; omega
  have htk := Sc.take_ok Ok1.out k
  obtain ⟨q3, r3⟩ := Sc.enc_of htk.1
  have n3 : (Sc.allBits (x, L1.take k)).length ≤ 1000000000 := Nat.le_trans (Sc.small_bits H15.out (by omega) (fun s hs => K1.out s (List.mem_of_mem_take hs))) (by decide)
  obtain ⟨Z, hZ⟩ : ∃ Z, Z = Sc.encOut (x, L1.take k) := ⟨_, rfl⟩
  have hZX : Z.length ≤ X.length := by rw [hZ, r3, HX.out, R1.out]; exact htk.2
  have hdec : Sc.dec (Bts.bitsOf Z) = (x, L1.take k, 0) := by rw [hZ, r3]; exact Sc.dec_enc htk.1
  have hZl : Z.length ≤ 1000000 := by
    have h1 := Sc.small_bits H15.out (show (L1.take k).length ≤ 200 by omega) (fun s hs => K1.out s (List.mem_of_mem_take hs))
    rw [hZ, r3, Bts.pack_len]; omega
  have Htl := Lib.hid htl
  have HZX := Lib.hid hZX
  have Hdec := Lib.hid hdec
  have HZl := Lib.hid hZl
  have HZ := Lib.hid hZ
  have Q3 := Lib.hid q3
  have Hw10 := Lib.hid (Hb10.out.trans (show Below (B + 1) w10 w10.drew from (Below.refl _ _).drew))
  have HsT := Lib.hid hsT
  have henc := Lib.hid (script_Encode w10.drew.heap.size x aT k c1 (L1.take k) w10.drew rfl (Sll.out _ (Blk.out _ Hw10.out).2.1).2.2 H15.out ⟨htl.symm, hsT⟩ (by omega) hm1 (fun _ => n3))
  clear htl htk q3 r3 n3 hZ hZX hdec hZl hsT
  have hkc : (k : Int) ≤ (L1.length : Int) := by omega
  have hkc1 : (k : Int) ≤ (c1 : Int) := by omega
  have hk0 : (0 : Int) ≤ (k : Int) := by omega
  have hkl200 : k ≤ 200 := by omega
  go_upto_region 10 with fail
  clear hkk' hdn
  go_region_held3 (fun W => W.cell? ⟨B, 0, none⟩ = some (.int .i64 (Sc.cf x 0)) ∧ W.cell? ⟨B, 1, none⟩ = some (.int .i64 (Sc.cf x 1)) ∧ W.cell? ⟨B, 2, none⟩ = some (.int .i64 (Sc.cf x 2)) ∧ W.cell? ⟨B, 3, none⟩ = some (.int .i64 (Sc.cf x 3)) ∧ W.cell? ⟨B, 4, none⟩ = some (.int .i64 (Sc.cf x 4)) ∧ W.cell? ⟨B, 5, none⟩ = some (.int .i64 (Sc.cf x 5)) ∧ W.cell? ⟨B, 6, none⟩ = some (.int .i64 (Sc.cf x 6)) ∧ W.cell? ⟨B, 7, none⟩ = some (.int .i64 (Sc.cf x 7)) ∧ W.cell? ⟨B, 8, none⟩ = some (.int .i64 (Sc.cf x 8)) ∧ W.cell? ⟨B, 9, none⟩ = some (.int .u64 (bv x.2)) ∧ W.cell? ⟨B, 10, none⟩ = some (.int .i64 (Sc.cf x 9)) ∧ W.cell? ⟨B, 11, none⟩ = some (.int .i64 (Sc.cf x 10)) ∧ W.cell? ⟨B, 12, none⟩ = some (.int .i64 (Sc.cf x 11)) ∧ W.cell? ⟨B, 13, none⟩ = some (.int .i64 (Sc.cf x 12)) ∧ W.cell? ⟨B, 14, none⟩ = some (.int .i64 (Sc.cf x 13)) ∧ W.cell? ⟨B, 15, none⟩ = some (.int .i64 (Sc.cf x 14)))
    (first | exact scr_S16 (Blk.out _ hb11).1 | exact scr_S16 (Blk.out _ Hw10.out).1)
    (first
      | (go_at_call 9; refine (henc.out).mono ?_; rintro e w11 ⟨v11, rfl, ho11, hb11a⟩; have hb11 : Below (B + 1) w1 w11 := Hw10.out.trans (hb11a.mono (Blk.out _ Hw10.out).2.2)))
  rw [Q3.out]
  rw [← HZ.out] at ho11
  obtain ⟨a11, c11, rfl, hc11, hm11, hr11, _⟩ := ho11.shape Z.length rfl
  have HT11 := Lib.hid ((HsT.out.below (by decide) (Below.refl _ w10).drew : Sl EStp (fun _ => True) w10.drew aT (L1.take k)).below (by decide) hb11a)
  have Hb11 := Lib.hid hb11
  have Hr11 := Lib.hid hr11
  clear ho11 hb11a hb11 hr11
  go_wp2_with fail
  refine (script_Decode w11.heap.size a11 Z.length c11 Z w11 rfl Hr11.out hc11 hm11 HZl.out (Sll.out _ (Blk.out _ Hb11.out).2.1).2.2).mono ?_
  rintro e w12 ⟨aR, cR, rfl, t1, t2, t3, hb12⟩
  rw [Hdec.out] at t1 t3 ⊢
  dsimp only at t1 t3 ⊢
  have Hb12 := Lib.hid (Hb11.out.trans (hb12.mono (Blk.out _ Hb11.out).2.2))
  obtain ⟨w13, hw13⟩ : ∃ y, y = w12.alloc (.cells (confCells x) 26) := ⟨_, rfl⟩
  have hb13 : Below w12.heap.size w12 w13 := by subst hw13; exact (Below.refl _ _).alloc (Nat.le_refl _) _
  have Hb13 := Lib.hid (Hb12.out.trans (hb13.mono (Blk.out _ Hb12.out).2.2))
  have T13 := Lib.hid ((t3.any (by decide)).below (by decide) hb13)
  have HT13 := Lib.hid ((HT11.out.below (by decide) hb12).below (by decide) hb13)
  have Hw13 := Lib.hid hw13
  clear hb12 t3 hb13 hw13
  unfold confCells
  go_upto_region 12 with fail
  have hex := Hw13.out.symm
  unfold confCells at hex
  rw [hex]
  clear hex
  have hle : (Z.length : Int) ≤ (X.length : Int) := by have := HZX.out; omega
  have Hd13 := Lib.hid (show Below w13.heap.size w13 w13.drew from (Below.refl _ _).drew)
  have tB : ∀ wx, Below w13.heap.size w13 wx → Below (B + 1) w1 wx := fun wx h => Hb13.out.trans (h.mono (Blk.out _ Hb13.out).2.2)
  have TB := Lib.hid tB
  obtain ⟨T, hT⟩ : ∃ T, T = L1.take k := ⟨_, rfl⟩
  have hTl : T.length = k := by rw [hT]; exact Htl.out
  have T13 := Lib.hid (show Sl EStp (fun _ => True) w13 aR T by rw [hT]; exact T13.out)
  have HT13 := Lib.hid (show Sl EStp (fun _ => True) w13 aT T by rw [hT]; exact HT13.out)
  rw [← hT] at t1 ⊢
  have HTl := Lib.hid hTl
  have hl1 := Lib.hid (show Calls Tryd.prog 13 #[.slice aR k cR] w13.drew fun e w' => ∃ a c, e = .returned (.slice a T.length c) ∧ T.length ≤ c ∧ c ≤ maxLen ∧ Sl EStp (fun _ => True) w' a T ∧ Below w13.drew.heap.size w13.drew w' by
    have := law14_list w13.drew.heap.size aR cR T w13.drew rfl (T13.out.below (by decide) Hd13.out) t1 (by omega)
    rw [HTl.out] at this ⊢
    exact this)
  have hl2 := Lib.hid (fun (wx : World) (h : Below w13.heap.size w13 wx) => show Calls Tryd.prog 13 #[.slice aT k c1] wx fun e w' => ∃ a c, e = .returned (.slice a T.length c) ∧ T.length ≤ c ∧ c ≤ maxLen ∧ Sl EStp (fun _ => True) w' a T ∧ Below wx.heap.size wx w' by
    have := law14_list wx.heap.size aT c1 T wx rfl (HT13.out.below (by decide) h) (by omega) (by omega)
    rw [HTl.out] at this ⊢
    exact this)
  have hsm := Lib.hid (fun (wx : World) (b1 b2 : Option Addr) (d1 d2 : Nat) (h1 : Sl EStp (fun _ => True) wx b1 T) (h2 : Sl EStp (fun _ => True) wx b2 T) (e1 : T.length ≤ d1) (e2 : T.length ≤ d2) (e3 : d1 ≤ maxLen) => ref14_Same b1 b2 d1 d2 T T wx h1 h2 e1 e2 e3)
  clear tB hT hTl
  go_region_held3 (fun _ => True)
    (first | trivial)
    (first
      | (go_at_call 18; refine (hsm.out _ _ _ _ _ s13 s23 s11 s21 s12).mono ?_; rintro e wz ⟨rfl, hbz0⟩; have hbz : Below w13.heap.size w13 wz := hbm.trans (hbz0.mono hbm.size))
      | (go_at_call 13; refine (hl2.out _ hbl).mono ?_; rintro e wm ⟨ay, cy, rfl, s21, s22, s23, hbm0⟩; have s13 := s13'.below (by decide) hbm0; have hbm : Below w13.heap.size w13 wm := hbl.trans (hbm0.mono hbl.size))
      | (go_at_call 13; refine (hl1.out).mono ?_; rintro e wl ⟨ax, cx, rfl, s11, s12, s13', hbl0⟩; have hbl : Below w13.heap.size w13 wl := Hd13.out.trans hbl0))
  go_wp2_with fail
  go_ret
  exact ⟨by simp, (Blk.out _ (TB.out _ hbz)).2.1⟩
end Go.Proofs.YtdpopdgeipgheaaDoor

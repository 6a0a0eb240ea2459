
/-
  The walk of the law 'ScriptForm'.
-/
import Derived.Test.YtdpopdgeipgheaaDoorScrEq
namespace Go.Proofs.YtdpopdgeipgheaaDoor
open Go.RowKit
set_option linter.unusedVariables false

theorem zeroC_cells : confCells Sc.zeroC = #[.int .i64 0, .int .i64 0, .int .i64 0, .int .i64 0, .int .i64 0, .int .i64 0, .int .i64 0, .int .i64 0, .int .i64 0, .int .u64 0, .int .i64 0, .int .i64 0, .int .i64 0, .int .i64 0, .int .i64 0, .int .i64 0] := rfl

set_option maxRecDepth 100000 in
set_option maxHeartbeats 6400000 in
theorem law_ScriptForm (a : Option Addr) (c : Nat) (b : List (BitVec 8)) (at_ : Int) (w : World) (hbd : Bounds w) (hs : Sl EU8 (fun _ => True) w a b) (hc : b.length ≤ c) (hm : c ≤ maxLen) (hat : -9223372036854775808 ≤ at_ ∧ at_ ≤ 9223372036854775807) :
    Calls Tryd.prog 5 #[.slice a b.length c, .int .i64 at_] w fun e w' => e = .returned (.bool true) ∧ Below w.heap.size w w' := by
  have hgB := hbd.lt
  have Hbd := Lib.hid hbd
  have Hs := Lib.hid hs
  have hmk := law14_head w hbd
  have Hhead := Lib.hid hmk
  clear hbd hs hmk
  go_enter Tryd.func5, Tryd.ntmps5
  go_wp2_with fail
  refine (Hhead.out).mono ?_
  rintro e w1 ⟨rfl, hb1⟩
  by_cases h3 : 3000 < b.length
  · have h3' : 3000 < (b.length : Int) := by omega
    clear h3
    go_wp2_with fail
    go_ret
    exact ⟨rfl, hb1⟩
  have h3' : ¬ (3000 < (b.length : Int)) := by omega
  go_wp2_with fail
  refine (ref_Copy a b.length c b _ ⟨rfl, Hs.out.below (by decide) hb1⟩ (by omega)).mono ?_
  rintro e w2 ⟨v2, rfl, ho2, hb2⟩
  have hbw2 := hb1.trans (hb2.mono hb1.size)
  obtain ⟨a2, c2, rfl, hc2, hm2, hr2, _⟩ := ho2.shape b.length rfl
  clear hb1 hb2 ho2
  have Hbw2 := Lib.hid hbw2
  have Hr2 := Lib.hid hr2
  clear hbw2 hr2
  go_wp2_with fail
  refine (script_Decode w2.heap.size a2 b.length c2 b _ (by rfl) Hr2.out hc2 hm2 (by omega) (Hbd.out.below Hbw2.out hgB)).mono ?_
  rintro e w3 ⟨aL, cL, rfl, l1, l2, l3, hb3⟩
  obtain ⟨R, hR⟩ : ∃ R, R = Sc.dec (Bts.bitsOf b) := ⟨_, rfl⟩
  rw [← hR] at l1 l3 ⊢
  obtain ⟨c1, L, er⟩ := R
  dsimp only at l1 l3 ⊢
  have HR := Lib.hid hR
  have hbw3 := Hbw2.out.trans (hb3.mono Hbw2.out.size)
  obtain ⟨M, hM⟩ : ∃ M, M = w3.heap.size := ⟨_, rfl⟩
  obtain ⟨w4, hw4⟩ : ∃ x, x = w3.alloc (.cells (confCells c1) 26) := ⟨_, rfl⟩
  have hb4 : Below w3.heap.size w3 w4 := by subst hw4; exact (Below.refl _ _).alloc (Nat.le_refl _) _
  have hh4 : w4.heap[M]? = some (.cells (confCells c1) 26 (0, 0)) := by subst hw4; subst hM; exact heap_alloc_new w3 _
  have hn4 : w4.heap.size = M + 1 := by subst hw4; subst hM; simp
  have hbw4 := hbw3.trans (hb4.mono hbw3.size)
  have L4 := Lib.hid (l3.below (by decide) hb4)
  have Hh4 := Lib.hid hh4
  have HM := Lib.hid hM
  have Hw4 := Lib.hid hw4
  have Hbw4 := Lib.hid hbw4
  have Hn4 := Lib.hid hn4
  clear hR hh4 hM hw4 hb3 hb4 hbw3 hbw4 l3 hn4
  unfold confCells
  go_upto_region 6 with fail
  have hex := Hw4.out.symm
  unfold confCells at hex
  rw [hex, ← HM.out]
  clear hex
  by_cases e0 : er = 0
  · subst e0
    have hok := Sc.dec_ok (b := b) (by rw [← HR.out])
    rw [← HR.out] at hok
    obtain ⟨o1, o2⟩ := hok
    dsimp only at o1 o2
    obtain ⟨q1, q2⟩ := Sc.enc_of o1
    have hout : Sc.encOut (c1, L) = b := by rw [q2, ← o2]
    have hch : Sc.check c1 = 0 := o1.1.2
    have h15 : c1.1.length = 15 := o1.1.1
    have hbl : (Sc.allBits (c1, L)).length ≤ 1000000000 := by
      have := congrArg List.length o2
      rw [Bts.pack_len] at this
      omega
    have Hcut := Lib.hid (fun (k : Nat) (hk : k < b.length) => (Sc.dec_cut o1 (k := k) (by rw [← o2]; exact hk)).symm)
    have Ho2 := Lib.hid o2
    have Hout := Lib.hid hout
    have Q1 := Lib.hid q1
    have Hch := Lib.hid hch
    have H15 := Lib.hid h15
    have Hbl := Lib.hid hbl
    clear o1 o2 q1 q2 hout hch h15 hbl
    go_wp2_with (first | (refine wpList_loadRow rfl _ _ rfl M rfl (confCells c1) _ (0, 0) _ Hh4.out Tryd.underlying26 rfl size_conf ?_))
    refine (script_Encode w4.heap.size c1 aL L.length cL L w4 rfl (Hbd.out.below Hbw4.out hgB) H15.out ⟨rfl, L4.out.any (by decide)⟩ l1 l2 (fun _ => Hbl.out)).mono ?_
    rintro e w6 ⟨v6, rfl, ho6, hb6⟩
    rw [Hout.out] at ho6
    rw [Q1.out]
    obtain ⟨a6, c6, rfl, hc6, hm6, hr6, _⟩ := ho6.shape b.length rfl
    have hh6 : w6.heap[M]? = some (.cells (confCells c1) 26 (0, 0)) := by rw [hb6.block M (by rw [Hn4.out]; omega)]; exact Hh4.out
    have Hbw6 := Lib.hid (Hbw4.out.trans (hb6.mono Hbw4.out.size))
    have k0 : w6.cell? ⟨M, 0, none⟩ = some (.int .i64 (Sc.cf c1 0)) := by simp [World.cell?, hh6, confCells]
    have k1 : w6.cell? ⟨M, 1, none⟩ = some (.int .i64 (Sc.cf c1 1)) := by simp [World.cell?, hh6, confCells]
    have k2 : w6.cell? ⟨M, 2, none⟩ = some (.int .i64 (Sc.cf c1 2)) := by simp [World.cell?, hh6, confCells]
    have k3 : w6.cell? ⟨M, 3, none⟩ = some (.int .i64 (Sc.cf c1 3)) := by simp [World.cell?, hh6, confCells]
    have k4 : w6.cell? ⟨M, 4, none⟩ = some (.int .i64 (Sc.cf c1 4)) := by simp [World.cell?, hh6, confCells]
    have k5 : w6.cell? ⟨M, 5, none⟩ = some (.int .i64 (Sc.cf c1 5)) := by simp [World.cell?, hh6, confCells]
    have k6 : w6.cell? ⟨M, 6, none⟩ = some (.int .i64 (Sc.cf c1 6)) := by simp [World.cell?, hh6, confCells]
    have k7 : w6.cell? ⟨M, 7, none⟩ = some (.int .i64 (Sc.cf c1 7)) := by simp [World.cell?, hh6, confCells]
    have k8 : w6.cell? ⟨M, 8, none⟩ = some (.int .i64 (Sc.cf c1 8)) := by simp [World.cell?, hh6, confCells]
    have k9 : w6.cell? ⟨M, 9, none⟩ = some (.int .u64 (bv c1.2)) := by simp [World.cell?, hh6, confCells]
    have k10 : w6.cell? ⟨M, 10, none⟩ = some (.int .i64 (Sc.cf c1 9)) := by simp [World.cell?, hh6, confCells]
    have k11 : w6.cell? ⟨M, 11, none⟩ = some (.int .i64 (Sc.cf c1 10)) := by simp [World.cell?, hh6, confCells]
    have k12 : w6.cell? ⟨M, 12, none⟩ = some (.int .i64 (Sc.cf c1 11)) := by simp [World.cell?, hh6, confCells]
    have k13 : w6.cell? ⟨M, 13, none⟩ = some (.int .i64 (Sc.cf c1 12)) := by simp [World.cell?, hh6, confCells]
    have k14 : w6.cell? ⟨M, 14, none⟩ = some (.int .i64 (Sc.cf c1 13)) := by simp [World.cell?, hh6, confCells]
    have k15 : w6.cell? ⟨M, 15, none⟩ = some (.int .i64 (Sc.cf c1 14)) := by simp [World.cell?, hh6, confCells]
    have Hr6 := Lib.hid hr6
    clear ho6 hb6 hh6 hr6
    go_wp2_with fail
    refine (ref_Same _ _ _ _ _ _ b b _ ⟨rfl, Hs.out.below (by decide) Hbw6.out⟩ Hr6.out).mono ?_
    rw [beq_self_eq_true]
    rintro e w7 ⟨rfl, rfl⟩
    go_wp2_with fail
    refine (script_Check c1 w6 (Hbd.out.below Hbw6.out hgB)).mono ?_
    rw [Hch.out]
    rintro e w8 ⟨rfl, hb8⟩
    have Hbw8 := Lib.hid (Hbw6.out.trans (hb8.mono Hbw6.out.size))
    clear k0 k1 k2 k3 k4 k5 k6 k7 k8 k9 k10 k11 k12 k13 k14 k15 hb8
    by_cases g0 : at_ < 0
    · go_wp2_with fail
      go_ret
      exact ⟨rfl, Hbw8.out⟩
    obtain ⟨k, rfl⟩ := Int.eq_ofNat_of_zero_le (show 0 ≤ at_ by omega)
    by_cases g1 : b.length ≤ k
    · have g1' : (b.length : Int) ≤ (k : Int) := by omega
      clear g1
      go_wp2_with fail
      go_ret
      exact ⟨rfl, Hbw8.out⟩
    have g1' : ¬ ((b.length : Int) ≤ (k : Int)) := by omega
    have g2 : (k : Int) ≤ (c : Int) := by omega
    have hkb : k < b.length := by omega
    have hrk : RB w8 a k (b.take k) := RB.take (Hs.out.below (by decide) Hbw8.out) (by omega)
    have Hrk := Lib.hid hrk
    have Hkb := Lib.hid hkb
    clear hrk g1
    go_wp2_with fail
    refine (script_Decode w8.heap.size a k c (b.take k) w8 rfl Hrk.out (by omega) hm (by omega) (Hbd.out.below Hbw8.out hgB)).mono ?_
    rintro e w9 ⟨aZ, cZ, rfl, z1, z2, z3, hb9⟩
    rw [Ho2.out, ← Hcut.out k Hkb.out]
    dsimp only
    rw [zeroC_cells]
    have Hbw9 := Lib.hid (Hbw8.out.trans (hb9.mono Hbw8.out.size))
    clear z1 z2 z3 hb9
    go_wp2_with fail
    go_ret
    exact ⟨rfl, Hbw9.out.alloc Hbw9.out.size _⟩
  · have e0' : (er != 0) = true := by simpa using e0
    have hbad := Sc.dec_bad (Bts.bitsOf b)
    rw [← HR.out] at hbad
    have hbad := hbad.resolve_left e0
    obtain ⟨rfl, rfl, _⟩ := hbad
    have hh4 := Hh4.out
    have k0 : w4.cell? ⟨M, 0, none⟩ = some (.int .i64 0) := by rw [zeroC_cells] at hh4; simp [World.cell?, hh4]
    have k1 : w4.cell? ⟨M, 1, none⟩ = some (.int .i64 0) := by rw [zeroC_cells] at hh4; simp [World.cell?, hh4]
    have k2 : w4.cell? ⟨M, 2, none⟩ = some (.int .i64 0) := by rw [zeroC_cells] at hh4; simp [World.cell?, hh4]
    have k3 : w4.cell? ⟨M, 3, none⟩ = some (.int .i64 0) := by rw [zeroC_cells] at hh4; simp [World.cell?, hh4]
    have k4 : w4.cell? ⟨M, 4, none⟩ = some (.int .i64 0) := by rw [zeroC_cells] at hh4; simp [World.cell?, hh4]
    have k5 : w4.cell? ⟨M, 5, none⟩ = some (.int .i64 0) := by rw [zeroC_cells] at hh4; simp [World.cell?, hh4]
    have k6 : w4.cell? ⟨M, 6, none⟩ = some (.int .i64 0) := by rw [zeroC_cells] at hh4; simp [World.cell?, hh4]
    have k7 : w4.cell? ⟨M, 7, none⟩ = some (.int .i64 0) := by rw [zeroC_cells] at hh4; simp [World.cell?, hh4]
    have k8 : w4.cell? ⟨M, 8, none⟩ = some (.int .i64 0) := by rw [zeroC_cells] at hh4; simp [World.cell?, hh4]
    have k9 : w4.cell? ⟨M, 9, none⟩ = some (.int .u64 0) := by rw [zeroC_cells] at hh4; simp [World.cell?, hh4]
    have k10 : w4.cell? ⟨M, 10, none⟩ = some (.int .i64 0) := by rw [zeroC_cells] at hh4; simp [World.cell?, hh4]
    have k11 : w4.cell? ⟨M, 11, none⟩ = some (.int .i64 0) := by rw [zeroC_cells] at hh4; simp [World.cell?, hh4]
    have k12 : w4.cell? ⟨M, 12, none⟩ = some (.int .i64 0) := by rw [zeroC_cells] at hh4; simp [World.cell?, hh4]
    have k13 : w4.cell? ⟨M, 13, none⟩ = some (.int .i64 0) := by rw [zeroC_cells] at hh4; simp [World.cell?, hh4]
    have k14 : w4.cell? ⟨M, 14, none⟩ = some (.int .i64 0) := by rw [zeroC_cells] at hh4; simp [World.cell?, hh4]
    have k15 : w4.cell? ⟨M, 15, none⟩ = some (.int .i64 0) := by rw [zeroC_cells] at hh4; simp [World.cell?, hh4]
    clear e0 hh4
    go_wp2_with fail
    go_ret
    exact ⟨rfl, Hbw4.out⟩
end Go.Proofs.YtdpopdgeipgheaaDoor


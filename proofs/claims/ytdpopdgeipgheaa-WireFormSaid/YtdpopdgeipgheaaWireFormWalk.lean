
/-
  The walk of the law 'WireForm'.
-/
import Derived.Test.YtdpopdgeipgheaaWirL
namespace Go.Proofs.Ytdpopdgeipgheaa
open Go.RowKit
set_option linter.unusedVariables false

set_option maxRecDepth 100000 in
set_option maxHeartbeats 3200000 in
theorem law_WireForm (a : Option Addr) (c : Nat) (b : List (BitVec 8)) (w : World) (hs : Sl EU8 (fun _ => True) w a b) (hc : b.length ≤ c) (hm : c ≤ maxLen) :
    Calls Try.prog 5 #[.slice a b.length c] w fun e w' => e = .returned (.bool true) ∧ Below w.heap.size w w' := by
  go_enter Try.func5, Try.ntmps5
  go_wp2_with fail
  refine (law15_head _).mono ?_
  rintro e w1 ⟨rfl, hb1⟩
  by_cases h3 : 3000 < b.length
  · have h3' : 3000 < (b.length : Int) := by omega
    go_wp2_with fail
    go_ret
    exact ⟨rfl, hb1⟩
  have h3' : ¬ (3000 < (b.length : Int)) := by omega
  go_wp2_with fail
  refine (ref_Copy a b.length c b _ ⟨rfl, hs.below (by decide) hb1⟩ (by omega)).mono ?_
  rintro e w2 ⟨v2, rfl, ho2, hb2⟩
  have hbw2 := hb1.trans (hb2.mono hb1.size)
  obtain ⟨a2, c2, rfl, hc2, hm2, hr2, _⟩ := ho2.shape b.length rfl
  clear hb1 hb2 ho2
  go_wp2_with fail
  refine (wire_Decode w2.heap.size a2 b.length c2 b _ (by rfl) hr2 hc2 hm2).mono ?_
  rintro e w3 ⟨aL, cL, aD, cD, rfl, l1, l2, l3, d1, d2, d3, hb3⟩
  obtain ⟨R, hR⟩ : ∃ R, R = Wi.dec b := ⟨_, rfl⟩
  rw [← hR] at l1 l3 d1 d3 ⊢
  obtain ⟨gk, ⟨xs, L, D⟩, er⟩ := R
  dsimp only at l1 l3 d1 d3 ⊢
  have HR := Lib.hid hR
  have hbw3 := hbw2.trans (hb3.mono hbw2.size)
  obtain ⟨M, hM⟩ : ∃ M, M = w3.heap.size := ⟨_, rfl⟩
  obtain ⟨w4, hw4⟩ : ∃ x, x = w3.alloc (.cells (msgCells gk xs aL L.length cL aD D.length cD) 25) := ⟨_, rfl⟩
  have hb4 : Below w3.heap.size w3 w4 := by subst hw4; exact (Below.refl _ _).alloc (Nat.le_refl _) _
  have hh4 : w4.heap[M]? = some (.cells (msgCells gk xs aL L.length cL aD D.length cD) 25 (0, 0)) := by subst hw4; subst hM; exact heap_alloc_new w3 _
  have hbw4 := hbw3.trans (hb4.mono hbw3.size)
  have hr24 := (hr2.below (by decide) hb3).below (by decide) hb4
  have L4 := l3.below (by decide) hb4
  have D4 := d3.below (by decide) hb4
  have hs4 : SB w4 a b := hs.below (by decide) hbw4
  have Hh4 := Lib.hid hh4
  have HM := Lib.hid hM
  have Hw4 := Lib.hid hw4
  clear hR hh4 hM hw4 hb3 hb4 hbw3 hbw2 l3 d3 hr2
  unfold msgCells
  go_upto_region 7 with fail
  have hex := Hw4.out.symm
  unfold msgCells at hex
  rw [hex, ← HM.out]
  clear hex
  have k0 : w4.cell? ⟨M, 0, none⟩ = some (.int .i64 gk) := by simp [World.cell?, Hh4.out, msgCells]
  have k10 : w4.cell? ⟨M, 10, none⟩ = some (.slice aL L.length cL) := by simp [World.cell?, Hh4.out, msgCells]
  have k11 : w4.cell? ⟨M, 11, none⟩ = some (.slice aD D.length cD) := by simp [World.cell?, Hh4.out, msgCells]
  go_wp2_with fail
  refine (ref_Same _ _ _ _ _ _ b b _ hr24 ⟨rfl, hs4⟩).mono ?_
  rw [beq_self_eq_true]
  rintro e w5 ⟨rfl, rfl⟩
  by_cases e0 : er = 0
  · subst e0
    have hok := Wi.dec_ok (b := b) (by rw [← HR.out])
    rw [← HR.out] at hok
    obtain ⟨o1, o2, o3, o4⟩ := hok
    simp only at o1 o2 o3 o4
    obtain ⟨q1, q2⟩ := Wi.encErr_of o1 o2 o3
    have hout : Wi.encOut gk (xs, L, D) = b := by rw [q2, ← o4]
    have Hout := Lib.hid hout
    have Q1 := Lib.hid q1
    have h9 : xs.length = 9 := o2.1
    clear o1 o2 o3 o4 q1 q2 hout
    go_wp2_with (first | (refine wpList_loadRow rfl _ _ rfl M rfl (msgCells gk xs aL L.length cL aD D.length cD) _ (0, 0) _ Hh4.out Try.underlying25 rfl (msg_size _ _ _ _ _ _ _ _) ?_))
    refine (wire_Encode w4.heap.size gk xs aL L.length cL L aD D.length cD D _ (by rfl) h9 ⟨rfl, L4.any (by decide)⟩ l1 l2 ⟨rfl, D4.any (by decide)⟩ d1 d2).mono ?_
    rintro e w6 ⟨v6, rfl, ho6, hb6⟩
    rw [Hout.out] at ho6
    rw [Q1.out]
    obtain ⟨a6, c6, rfl, hc6, hm6, hr6, _⟩ := ho6.shape b.length rfl
    have hbw6 := hbw4.trans (hb6.mono hbw4.size)
    clear ho6 hb6
    go_wp2_with fail
    refine (ref_Same _ _ _ _ _ _ b b _ ⟨rfl, hs.below (by decide) hbw6⟩ hr6).mono ?_
    rw [beq_self_eq_true]
    rintro e w7 ⟨rfl, rfl⟩
    go_wp2_with fail
    go_ret
    exact ⟨rfl, hbw6⟩
  · have e0' : (er != 0) = true := by simpa using e0
    have hbad := Wi.dec_bad (b := b) (by rw [← HR.out]; exact e0)
    rw [← HR.out] at hbad
    simp only [Prod.mk.injEq, Wi.zeroI, and_true] at hbad
    obtain ⟨rfl, rfl, rfl, rfl⟩ := hbad
    clear e0
    go_wp2_with fail
    go_ret
    exact ⟨rfl, hbw4⟩
end Go.Proofs.Ytdpopdgeipgheaa


/-
  The head of the statements on transactions, walked.
-/
import Derived.Test.YtmmgnbdngpkfcaaCoT
namespace Go.Proofs.Ytmmgnbdngpkfcaa
open Go.RowKit
set_option linter.unusedVariables false
namespace Co
def aEnd (at_ : Int) (e : En) : An := ⟨0, [], at_, 0, 0, e⟩
def hT : Nat → Tx
  | 0 => new 5 [(2, 0, 7)] true 1 3
  | k + 1 => inT (nextT (hT k)) (aEnd (k + 1) (nextA (hT k)).1.e)
def hK (k : Nat) : Int := [1, 3, 1, 4, 5].getD k 0
theorem h_ok : ∀ k, k < 5 → (nextA (hT k)).2 = true ∧ (nextA (hT k)).1.kind = hK k ∧ (nextT (hT k)).at_ ≤ 3 ∧ 0 ≤ (nextT (hT k)).stage ∧ (nextT (hT k)).stage ≤ 8 := by decide +kernel
theorem h_end : (hT 5).res = 2 ∧ (hT 5).stage = 8 := by decide +kernel
end Co

set_option maxRecDepth 4096 in
set_option maxHeartbeats 3200000 in
theorem law22_head (w : World) :
    Calls Try.prog 15 #[] w fun e w' => e = .returned (.bool true) ∧ Below w.heap.size w w' := by
  obtain ⟨B, hB⟩ : ∃ B, B = w.heap.size := ⟨_, rfl⟩
  rw [← hB]
  obtain ⟨w1, hw1⟩ : ∃ x, x = w.alloc (.cells #[.int .i64 2, .int .i64 0, .int .i64 7] 47) := ⟨_, rfl⟩
  have hb1 : Below w.heap.size w w1 := by rw [hw1]; exact alloc_below _ _
  have hs1 : Sl ECOp (fun _ => True) w1 (some ⟨w.heap.size, 0, none⟩) [(2, 0, 7)] := by rw [hw1]; exact sl_one (heap_alloc_new w _) (cop_mk (2, 0, 7) (by decide) (by decide) (by decide)) trivial
  have HC := Lib.hid (b_CNew 5 (some ⟨w.heap.size, 0, none⟩) 1 1 [(2, 0, 7)] true 1 3 w1.heap.size w1 rfl hs1 rfl (Nat.le_refl _) (by decide) (by decide))
  have Hb1 := Lib.hid hb1
  have HB := Lib.hid hB
  clear hs1 hb1 hB
  go_enter Try.func15, Try.ntmps15
  go_wp2_with fail
  rw [← hw1]
  clear hw1
  refine HC.out.mono ?_
  rintro e w2 ⟨g, rfl, hT2, hb2⟩
  have hB2 : Below B w w2 := by rw [HB.out]; exact Hb1.out.trans (hb2.mono Hb1.out.size)
  obtain ⟨w3, hw3⟩ : ∃ x, x = w2.alloc (.cells #[.int .i64 1, .int .i64 3, .int .i64 1, .int .i64 4, .int .i64 5] 3) := ⟨_, rfl⟩
  have hh3 : w3.heap[w2.heap.size]? = some (.cells #[.int .i64 1, .int .i64 3, .int .i64 1, .int .i64 4, .int .i64 5] 3 (0, 0)) := by rw [hw3]; exact heap_alloc_new w2 _
  have hb3 : Below w2.heap.size w2 w3 := by rw [hw3]; exact alloc_below _ _
  obtain ⟨p2, hp2⟩ : ∃ p, p = w2.heap.size := ⟨_, rfl⟩
  obtain ⟨C, hC⟩ : ∃ C, C = w1.heap.size := ⟨_, rfl⟩
  rw [← hp2, ← hC] at hT2
  rw [← hp2] at hh3
  have hT3 := hT2.keep (by rw [hp2]; exact hb3)
  have hCB : B ≤ C := by rw [HB.out, hC]; exact Hb1.out.size
  have hCp : C ≤ p2 := hT2.low
  have hB3 : Below B w w3 := hB2.trans (hb3.mono (by omega))
  have HT3 := Lib.hid hT3
  have Hh3 := Lib.hid hh3
  have HB3 := Lib.hid hB3
  have hz3 : p2 < w3.heap.size := by rw [hw3, hp2]; simp
  clear hT2 hT3 hh3 hB2 hB3 hb3 hb2 HC hC
  go_upto_region 3 with fail
  rw [← hw3, ← hp2]
  clear hw3 hp2
  go_wp2_with fail
  go_loopg [15] 5 (fun gn i wr => ∃ k : Nat, RowKit.Hid (gn = 5 - k) ∧ k ≤ 5 ∧ i = .int .i64 k ∧ RowKit.Hid (TxB C p2 wr g (Co.hT k)) ∧ RowKit.Hid (Below B w wr) ∧ RowKit.Hid (wr.heap[p2]? = some (.cells #[.int .i64 1, .int .i64 3, .int .i64 1, .int .i64 4, .int .i64 5] 3 (0, 0))))
  case atStart => exact ⟨0, Lib.hid rfl, by decide, rfl, HT3, HB3, Hh3⟩
  case round =>
    clear HT3 HB3 Hh3
    obtain ⟨k, hgn, hk, rfl, hT, hb, hh⟩ := hrel
    by_cases hlt : k < 5
    · have hki : (k : Int) < 5 := by omega
      obtain ⟨o1, o2, o3, o4, o5⟩ := Co.h_ok k hlt
      have hcell : wr.cell? ⟨p2, k, none⟩ = some (.int .i64 (Co.hK k)) := by
        have : k = 0 ∨ k = 1 ∨ k = 2 ∨ k = 3 ∨ k = 4 := by omega
        rcases this with rfl | rfl | rfl | rfl | rfl <;> simp [World.cell?, hh.out, Co.hK]
      obtain ⟨kd, hkd⟩ : ∃ x, x = Co.hK k := ⟨_, rfl⟩
      rw [← hkd] at hcell o2
      have HC := Lib.hid (b_CNext wr hT.out)
      have hadd : IntKind.i64.wrap ((k : Int) + 1) = (k : Int) + 1 := IntWalk.i64_in _ (by omega)
      have O1 := Lib.hid o1
      have O2 := Lib.hid o2
      have O3 := Lib.hid o3
      have O4 := Lib.hid (And.intro o4 o5)
      clear hkd o1 o2 o3 o4 o5
      go_wp2_with fail
      refine HC.out.mono ?_
      rintro e w5 ⟨aw, cw, ar, cr, rfl, _, hT5, ho5⟩
      rw [O1.out, O2.out]
      obtain ⟨A, hA⟩ : ∃ A, A = (Co.nextA (Co.hT k)).1 := ⟨_, rfl⟩
      rw [← hA]
      obtain ⟨w6, hw6⟩ : ∃ x, x = w5.alloc (.cells #[.int .i64 A.shard, .int .i64 kd, .int .i64 A.txn, .int .i64 A.home, .int .i64 A.start, .slice aw A.writes.length cw, .slice ar A.reads.length cr, .int .i64 A.e.t, .bool A.e.c, .int .i64 A.e.a] 37) := ⟨_, rfl⟩
      have hh6 : w6.heap[w5.heap.size]? = some (.cells #[.int .i64 A.shard, .int .i64 kd, .int .i64 A.txn, .int .i64 A.home, .int .i64 A.start, .slice aw A.writes.length cw, .slice ar A.reads.length cr, .int .i64 A.e.t, .bool A.e.c, .int .i64 A.e.a] 37 (0, 0)) := by rw [hw6]; exact heap_alloc_new w5 _
      have hb6 : Below w5.heap.size w5 w6 := by rw [hw6]; exact alloc_below _ _
      obtain ⟨q, hq⟩ : ∃ q, q = w5.heap.size := ⟨_, rfl⟩
      rw [← hq] at hh6
      have q1 : w6.cell? ⟨q, 1, none⟩ = some (.int .i64 kd) := by simp [World.cell?, hh6]
      have q7 : w6.cell? ⟨q, 7, none⟩ = some (.int .i64 A.e.t) := by simp [World.cell?, hh6]
      have q8 : w6.cell? ⟨q, 8, none⟩ = some (.bool A.e.c) := by simp [World.cell?, hh6]
      have q9 : w6.cell? ⟨q, 9, none⟩ = some (.int .i64 A.e.a) := by simp [World.cell?, hh6]
      have hsz5 : p2 ≤ w5.heap.size := hT5.size
      have hT6 : TxB C p2 w6 g (Co.nextT (Co.hT k)) := hT5.keep (hb6.mono hsz5)
      have hb06 : Below B w w6 := hb.out.trans ((ho5.below (Nat.le_trans hCB (Nat.le_trans hCp hT.out.size)) (fun k hk => by omega)).trans (hb6.mono (by omega)))
      have hhp : w6.heap[p2]? = _ := (hb6.block p2 (by have := ho5.size; have := (Array.getElem?_eq_some_iff.1 hh.out).1; omega)).trans ((ho5.block p2 (Array.getElem?_eq_some_iff.1 hh.out).1 (by omega)).trans hh.out)
      have HT6 := Lib.hid hT6
      have Hb6 := Lib.hid hb06
      have Hhp := Lib.hid hhp
      have HA := Lib.hid hA
      clear hT5 ho5 hh6 hb6 hT6 hb06 hhp hA hT hb hh HC hcell
      go_upto_region 7 with fail
      rw [← hw6, ← hq]
      clear hw6 hq
      go_wp2_with fail
      refine (b_CIn (Co.aEnd ((k : Int) + 1) A.e) none 0 0 w6 HT6.out rfl (by unfold maxLen; decide) (Sl.nil _ _ _ _) (.inl O3.out) O4.out).mono ?_
      rintro e w7 ⟨rfl, hT7, ho7⟩
      have hT7' : TxB C p2 w7 g (Co.hT (k + 1)) := by rw [Co.hT, ← HA.out]; exact hT7
      have hb7 := Hb6.out.trans (ho7.below (Nat.le_trans hCB (Nat.le_trans hCp HT6.out.size)) (fun k hk => by omega))
      have hhp : w7.heap[p2]? = _ := (ho7.block p2 (Array.getElem?_eq_some_iff.1 Hhp.out).1 (by omega)).trans Hhp.out
      have HT7 := Lib.hid hT7'
      have Hb7 := Lib.hid hb7
      have Hhp7 := Lib.hid hhp
      clear hT7 hT7' hb7 hhp ho7
      go_wp2_with fail
      go_roundg (5 - (k + 1))
      case measure => rw [hgn.out]; omega
      case rel => exact ⟨k + 1, Lib.hid rfl, by omega, by go_num, HT7, Hb7, Hhp7⟩
    · have hki : ¬ ((k : Int) < 5) := by omega
      have hk5 : k = 5 := by omega
      subst hk5
      have HC := Lib.hid (b_CResult wr hT.out)
      go_wp2_with fail
      refine HC.out.mono ?_
      rintro e w5 ⟨v, rfl, _, hb5⟩
      rw [Co.h_end.1]
      have hT5 := hT.out.keep (hb5.mono hT.out.size)
      have hbB5 := hb.out.trans (hb5.mono (Nat.le_trans hCB (Nat.le_trans hCp hT.out.size)))
      have HT5 := Lib.hid hT5
      have Hb5 := Lib.hid hbB5
      clear hb5 hT5 hbB5 hT hb hh HC
      go_wp2_with fail
      refine (b_COver w5 HT5.out).mono ?_
      rw [Co.h_end.2]
      rintro e wt ⟨rfl, rfl⟩
      go_wp2_with fail
      go_ret
      exact ⟨rfl, Hb5.out⟩
end Go.Proofs.Ytmmgnbdngpkfcaa


/-
  The law CoordWaits, walked.
-/
import Derived.Test.YtmmgnbdngpkfcaaCoH
namespace Go.Proofs.Ytmmgnbdngpkfcaa
open Go.RowKit
set_option linter.unusedVariables false
theorem i64_and15 (n : Int) : bits .and .i64 n 15 = n % 16 := by
  have h : bits .and .i64 n 15 = IntKind.i64.wrap ((BitVec.ofInt 64 n &&& BitVec.ofInt 64 15).toNat : Int) := rfl
  rw [h, show BitVec.ofInt 64 15 = 15#64 from rfl]
  have h2 : (BitVec.ofInt 64 n &&& 15#64).toNat = (BitVec.ofInt 64 n).toNat % 16 := by
    rw [BitVec.toNat_and]
    exact Nat.and_two_pow_sub_one_eq_mod _ 4
  rw [h2, BitVec.toNat_ofInt]
  have h3 : 0 ≤ n % 18446744073709551616 := Int.emod_nonneg _ (by decide)
  rw [IntWalk.i64_in _ (by omega)]
  omega
namespace Co
def wT (pat i : Int) : Tx := ⟨9, [(1, 3, 0)], false, 2, pat, 1, 5, ⟨0, false, 0⟩, 1, false, i, ⟨0, false, 0⟩, 0, fun _ => none, 0, false⟩
def wL (pat i : Int) : Tx := { wT pat i with wait := true }
def wS (pat b h : Int) : Tx := { wT pat pat with stage := 2, by_ := ⟨b, false, 0⟩, home := h }
def wS1 (pat b h : Int) (e : En) : Tx := { wS pat b h with by_ := e, stage := 3 }
def wS2 (pat b h : Int) (e : En) : Tx := { wS1 pat b h e with stage := 1, waited := 0 }
theorem w_r1 : reads 2 [(1, 3, 0)] 1 = [3] := by decide +kernel
theorem w_f0 : first (fun a => !(reads 2 [(1, 3, 0)] a).isEmpty) 2 0 = 1 := by decide +kernel
theorem w_f2 : first (fun a => !(reads 2 [(1, 3, 0)] a).isEmpty) 2 2 = 2 := by decide +kernel
theorem w_new (pat : Int) : inT (new 9 [(1, 3, 0)] false 2 pat) ⟨0, [], 5, 0, 0, ⟨0, false, 0⟩⟩ = wT pat 0 := by
  have e1 : new 9 [(1, 3, 0)] false 2 pat = ⟨9, [(1, 3, 0)], false, 2, pat, 0, 0, ⟨0, false, 0⟩, 0, false, 0, ⟨0, false, 0⟩, 0, fun _ => none, 0, false⟩ := rfl
  have e2 : inT ⟨9, [(1, 3, 0)], false, 2, pat, 0, 0, ⟨0, false, 0⟩, 0, false, 0, ⟨0, false, 0⟩, 0, fun _ => none, 0, false⟩ ⟨0, [], 5, 0, 0, ⟨0, false, 0⟩⟩ = goR ⟨9, [(1, 3, 0)], false, 2, pat, 0, 5, ⟨0, false, 0⟩, 0, false, 0, ⟨0, false, 0⟩, 0, fun _ => none, 0, false⟩ 0 := rfl
  rw [e1, e2]
  unfold goR
  dsimp only
  rw [w_f0, if_pos (by decide)]
  rfl
theorem w_next (pat i : Int) : nextA (wT pat i) = (⟨1, 2, 9, 0, 5, [], [3], ⟨0, false, 0⟩⟩, true) := by
  have e : nextA (wT pat i) = (⟨1, 2, 9, 0, 5, [], reads 2 [(1, 3, 0)] 1, ⟨0, false, 0⟩⟩, true) := rfl
  rw [e, w_r1]
theorem w_nextT (pat i : Int) : nextT (wT pat i) = wT pat i := rfl
theorem w_in {pat i : Int} (b h : Int) (hi : i < pat) : inT (wT pat i) ⟨60, [], 0, b, h, ⟨0, false, 0⟩⟩ = wL pat i := by
  have e : inT (wT pat i) ⟨60, [], 0, b, h, ⟨0, false, 0⟩⟩ = if pat ≤ i then { wT pat i with wait := false, stage := 2, by_ := ⟨b, false, 0⟩, home := h } else { wT pat i with wait := true } := rfl
  rw [e, if_neg (by omega)]
  rfl
theorem w_last (pat b h : Int) : inT (wT pat pat) ⟨60, [], 0, b, h, ⟨0, false, 0⟩⟩ = wS pat b h := by
  have e : inT (wT pat pat) ⟨60, [], 0, b, h, ⟨0, false, 0⟩⟩ = if pat ≤ pat then { wT pat pat with wait := false, stage := 2, by_ := ⟨b, false, 0⟩, home := h } else { wT pat pat with wait := true } := rfl
  rw [e, if_pos (Int.le_refl _)]
  rfl
theorem l_next (pat i : Int) : nextA (wL pat i) = (⟨0, 0, 0, 0, 0, [], [], ⟨0, false, 0⟩⟩, false) := rfl
theorem l_nextT (pat i : Int) : nextT (wL pat i) = wL pat i := rfl
theorem l_in (pat i : Int) : inT (wL pat i) ⟨0, [4], 0, 0, 0, ⟨0, false, 0⟩⟩ = wL pat i := rfl
theorem l_tick (pat i : Int) : tick (wL pat i) = wT pat (i + 1) := rfl
theorem s_next (pat b h : Int) : nextA (wS pat b h) = (⟨h, 4, 0, 0, 0, [], [], ⟨b, false, 0⟩⟩, true) := rfl
theorem s_nextT (pat b h : Int) : nextT (wS pat b h) = wS pat b h := rfl
theorem s_in (pat b h : Int) (e : En) : inT (wS pat b h) ⟨0, [], 0, 0, 0, e⟩ = wS1 pat b h e := rfl
theorem s1_next (pat b h : Int) (e : En) : nextA (wS1 pat b h e) = (⟨1, 5, 0, 0, 0, [], [], e⟩, true) := rfl
theorem s1_nextT (pat b h : Int) (e : En) : nextT (wS1 pat b h e) = wS1 pat b h e := rfl
theorem s1_in (pat b h : Int) (e : En) : inT (wS1 pat b h e) ⟨0, [], 0, 0, 0, ⟨0, false, 0⟩⟩ = wS2 pat b h e := rfl
theorem s2_next (pat b h : Int) (e : En) : nextA (wS2 pat b h e) = (⟨1, 2, 9, 0, 5, [], [3], ⟨0, false, 0⟩⟩, true) := by
  have e : nextA (wS2 pat b h e) = (⟨1, 2, 9, 0, 5, [], reads 2 [(1, 3, 0)] 1, ⟨0, false, 0⟩⟩, true) := rfl
  rw [e, w_r1]
theorem s2_nextT (pat b h : Int) (e : En) : nextT (wS2 pat b h e) = wS2 pat b h e := rfl
theorem s2_in (pat b h : Int) (e : En) : (inT (wS2 pat b h e) ⟨0, [8], 0, 0, 0, ⟨0, false, 0⟩⟩).res = 2 ∧ (inT (wS2 pat b h e) ⟨0, [8], 0, 0, 0, ⟨0, false, 0⟩⟩).stage = 8 ∧ told (inT (wS2 pat b h e) ⟨0, [8], 0, 0, 0, ⟨0, false, 0⟩⟩) = [(1, 3, 8)] := by
  have e1 : inT (wS2 pat b h e) ⟨0, [8], 0, 0, 0, ⟨0, false, 0⟩⟩ = got (wS2 pat b h e) ⟨0, [8], 0, 0, 0, ⟨0, false, 0⟩⟩ := rfl
  have e2 : got (wS2 pat b h e) ⟨0, [8], 0, 0, 0, ⟨0, false, 0⟩⟩ = { wS2 pat b h e with vals := storeV (fun _ => none) [3] [8], waited := 0, at_ := 2, stage := 8, res := 2 } := by
    have e3 : got (wS2 pat b h e) ⟨0, [8], 0, 0, 0, ⟨0, false, 0⟩⟩ = goR { wS2 pat b h e with vals := storeV (fun _ => none) [3] [8], waited := 0 } 2 := by
      unfold got
      dsimp only [wS2, wS1, wS, wT]
      rw [w_r1, if_neg (by decide), if_neg (by decide)]
      rfl
    rw [e3]
    unfold goR
    have e4 : ∀ T : Tx, T.ops = [(1, 3, 0)] → T.sh = 2 → first (fun a => !(reads T.sh T.ops a).isEmpty) T.sh 2 = 2 := fun T h1 h2 => by rw [h1, h2]; exact w_f2
    dsimp only
    rw [e4 _ rfl rfl, if_neg (show ¬ ((2 : Int) < (wS2 pat b h e).sh) from (show ¬ ((2 : Int) < 2) by decide)), if_neg (show ¬ hasW (wS2 pat b h e).ops = true from (show ¬ hasW [(1, 3, 0)] = true by decide))]
  rw [e1, e2]
  refine ⟨rfl, rfl, ?_⟩
  have e5 : tellGo (storeV (fun _ => none) [3] [8]) [(1, 3, 0)] (fun _ => none) = [(1, 3, 8)] := by decide +kernel
  exact e5
end Co
theorem b_CNextE {B S g : Nat} {T T' : Co.Tx} {A : Co.Ask} {ok : Bool} (w : World) (h : TxB B S w g T) (hA : Co.nextA T = (A, ok)) (hT : Co.nextT T = T') :
    Calls Try.prog 19 #[.pointer (some ⟨g, 0, none⟩)] w fun e w' => ∃ aw cw ar cr, e = .returned (.tuple #[.agg #[.int .i64 A.shard, .int .i64 A.kind, .int .i64 A.txn, .int .i64 A.home, .int .i64 A.start, .slice aw A.writes.length cw, .slice ar A.reads.length cr, .int .i64 A.e.t, .bool A.e.c, .int .i64 A.e.a], .bool ok]) ∧ TxB B S w' g T' ∧ Only (fun k => B ≤ k ∧ k < S) w w' := by
  refine (b_CNext w h).mono ?_
  rintro e w' ⟨aw, cw, ar, cr, rfl, _, h2, h3⟩
  rw [hT] at h2
  exact ⟨aw, cw, ar, cr, by rw [hA], h2, h3⟩
set_option maxRecDepth 4096 in
set_option maxHeartbeats 6400000 in
theorem walk_CoordWaits (pt by_ home et : Int) (ec : Bool) (ea : Int) (w : World) :
    Calls Try.prog 4 #[.int .i64 pt, .int .i64 by_, .int .i64 home, .agg #[.int .i64 et, .bool ec, .int .i64 ea]] w fun e w' => e = .returned (.bool true) ∧ Below w.heap.size w w' := by
  obtain ⟨B, hB⟩ : ∃ B, B = w.heap.size := ⟨_, rfl⟩
  rw [← hB]
  obtain ⟨w1, hw1⟩ : ∃ x, x = w.alloc (.cells #[.int .i64 et, .bool ec, .int .i64 ea] 33) := ⟨_, rfl⟩
  have hh1 : w1.heap[w.heap.size]? = some (.cells #[.int .i64 et, .bool ec, .int .i64 ea] 33 (0, 0)) := by rw [hw1]; exact heap_alloc_new w _
  have hb1 : Below w.heap.size w w1 := by rw [hw1]; exact alloc_below _ _
  rw [← hB] at hh1 hb1
  have hz1 : w1.heap.size = B + 1 := by rw [hw1, hB]; simp
  have hand := i64_and15 pt
  obtain ⟨m, hm⟩ : ∃ m : Nat, (m : Int) = pt % 16 := ⟨(pt % 16).toNat, by have := Int.emod_nonneg pt (show (16 : Int) ≠ 0 by decide); omega⟩
  have hm15 : m ≤ 15 := by have := Int.emod_lt_of_pos pt (show (0 : Int) < 16 by decide); omega
  rw [← hm] at hand
  have Hh1 := Lib.hid hh1
  have Hb1 := Lib.hid hb1
  clear hh1 hb1 hm
  go_enter Try.func4, Try.ntmps4
  go_upto_region 1 with fail
  rw [← hw1, ← hB]
  clear hw1 hB
  go_wp2_with fail
  refine (law22_head w1).mono ?_
  rintro e w2 ⟨rfl, hb2⟩
  have Hb2 := Lib.hid hb2
  clear hb2
  go_upto_region 4 with fail
  obtain ⟨w3, hw3⟩ : ∃ x, x = w2.alloc (.cells #[.int .i64 1, .int .i64 3, .int .i64 0] 47) := ⟨_, rfl⟩
  have hb3 : Below w2.heap.size w2 w3 := by rw [hw3]; exact alloc_below _ _
  have hs3 : Sl ECOp (fun _ => True) w3 (some ⟨w2.heap.size, 0, none⟩) [(1, 3, 0)] := by rw [hw3]; exact sl_one (heap_alloc_new w2 _) (cop_mk (1, 3, 0) (by decide) (by decide) (by decide)) trivial
  obtain ⟨C, hC⟩ : ∃ C, C = w3.heap.size := ⟨_, rfl⟩
  have HC := Lib.hid (b_CNew 9 (some ⟨w2.heap.size, 0, none⟩) 1 1 [(1, 3, 0)] false 2 m C w3 hC hs3 rfl (Nat.le_refl _) (by decide) (by decide))
  have hbB3 : Below B w w3 := Hb1.out.trans ((Hb2.out.mono (by omega)).trans (hb3.mono (by have := Hb2.out.size; omega)))
  have hh3 : w3.heap[B]? = some (.cells #[.int .i64 et, .bool ec, .int .i64 ea] 33 (0, 0)) := (hb3.block B (by have := Hb2.out.size; omega)).trans ((Hb2.out.block B (by omega)).trans Hh1.out)
  have hBC : B < C := by have := Hb2.out.size; have := hb3.size; omega
  have HB3 := Lib.hid hbB3
  have Hh3 := Lib.hid hh3
  clear hb3 hs3 hC hbB3 hh3 Hb1 Hb2 Hh1
  go_wp2_with fail
  rw [← hw3]
  clear hw3
  obtain ⟨wc0, hwc0⟩ : ∃ x, x = w3 := ⟨_, rfl⟩
  rw [← hwc0] at HC HB3 Hh3 ⊢
  refine HC.out.mono ?_
  rintro e w4 ⟨g, rfl, hT4, hb4⟩
  obtain ⟨S, hS⟩ : ∃ S, S = w4.heap.size := ⟨_, rfl⟩
  rw [← hS] at hT4
  have HT := Lib.hid hT4
  have Hb7 := Lib.hid hb4
  clear hT4 hb4 hwc0 hS HC
  go_wp2_with fail
  refine (b_CIn ⟨0, [], 5, 0, 0, ⟨0, false, 0⟩⟩ none 0 0 w4 HT.out rfl (by unfold maxLen; decide) (Sl.nil _ _ _ _) (.inr ⟨show (0 : Int) ≠ 1 by decide, show (0 : Int) ≠ 4 by decide, show (0 : Int) ≠ 7 by decide⟩) (show (0 : Int) ≤ 0 ∧ (0 : Int) ≤ 8 by decide)).mono ?_
  rintro e w5 ⟨rfl, hTo, hoo⟩
  rw [Co.w_new] at hTo
  have hb7o : Below C wc0 w5 := Hb7.out.trans (hoo.below (Nat.le_trans HT.out.low HT.out.size) (fun k hk => hk.1))
  have HT := Lib.hid hTo
  have Hb7 := Lib.hid hb7o
  clear hTo hb7o hoo
  go_wp2_with fail
  go_loopg [10] (m + 1) (fun gn i wr => ∃ j : Nat, RowKit.Hid (gn = m + 1 - j) ∧ j ≤ m + 1 ∧ i = .int .i64 j ∧ RowKit.Hid (Below C wc0 wr) ∧ RowKit.Hid ((j ≤ m ∧ TxB C S wr g (Co.wT m j)) ∨ (j = m + 1 ∧ TxB C S wr g (Co.wS m by_ home))))
  case atStart => exact ⟨0, Lib.hid rfl, by omega, rfl, Hb7, Lib.hid (.inl ⟨Nat.zero_le _, HT.out⟩)⟩
  case round =>
    clear HT Hb7
    obtain ⟨j, hgn, hj, rfl, Hb7, hTj⟩ := hrel
    by_cases hlt : j ≤ m
    · have hTm : TxB C S wr g (Co.wT m j) := by
        rcases hTj.out with h | h
        · exact h.2
        · omega
      have HT := Lib.hid hTm
      have hji : (j : Int) ≤ (m : Int) := by omega
      have hadd : IntKind.i64.wrap ((j : Int) + 1) = (j : Int) + 1 := IntWalk.i64_in _ (by omega)
      clear hTm hTj
      go_wp2_with fail
      refine (b_CNextE wr HT.out (Co.w_next m j) (Co.w_nextT m j)).mono ?_
      rintro e wn ⟨aw, cw, ar, cr, rfl, hTn, hon⟩
      try dsimp only
      obtain ⟨w6, hwo⟩ : ∃ x, x = wn.alloc (.cells #[.int .i64 1, .int .i64 2, .int .i64 9, .int .i64 0, .int .i64 5, .slice aw 0 cw, .slice ar 1 cr, .int .i64 0, .bool false, .int .i64 0] 37) := ⟨_, rfl⟩
      have hho : w6.heap[wn.heap.size]? = some (.cells #[.int .i64 1, .int .i64 2, .int .i64 9, .int .i64 0, .int .i64 5, .slice aw 0 cw, .slice ar 1 cr, .int .i64 0, .bool false, .int .i64 0] 37 (0, 0)) := by rw [hwo]; exact heap_alloc_new wn _
      have hbo : Below wn.heap.size wn w6 := by rw [hwo]; exact alloc_below _ _
      obtain ⟨q, hq⟩ : ∃ q, q = wn.heap.size := ⟨_, rfl⟩
      rw [← hq] at hho
      have q0 : w6.cell? ⟨q, 0, none⟩ = some (.int .i64 1) := by simp [World.cell?, hho]
      have q1 : w6.cell? ⟨q, 1, none⟩ = some (.int .i64 2) := by simp [World.cell?, hho]
      have hTo := hTn.keep (hbo.mono hTn.size)
      have hb7o : Below C wc0 w6 := Hb7.out.trans ((hon.below (Nat.le_trans HT.out.low HT.out.size) (fun k hk => hk.1)).trans (hbo.mono (Nat.le_trans HT.out.low hTn.size)))
      have HT := Lib.hid hTo
      have Hb7 := Lib.hid hb7o
      clear hTo hb7o hbo hho hon hTn
      go_upto_region 10 with fail
      try dsimp only [List.length]
      rw [← hwo, ← hq]
      clear hwo hq
      by_cases hlast : j < m
      · have hjl : (j : Int) < (m : Int) := by omega
        go_wp2_with fail
        refine (b_CIn ⟨60, [], 0, by_, home, ⟨0, false, 0⟩⟩ none 0 0 w6 HT.out rfl (by unfold maxLen; decide) (Sl.nil _ _ _ _) (.inl (by show (1 : Int) ≤ 3; decide)) (show (0 : Int) ≤ 1 ∧ (1 : Int) ≤ 8 by decide)).mono ?_
        rintro e w7 ⟨rfl, hTo, hoo⟩
        rw [Co.w_in by_ home hjl] at hTo
        have hb7o : Below C wc0 w7 := Hb7.out.trans (hoo.below (Nat.le_trans HT.out.low HT.out.size) (fun k hk => hk.1))
        have HT := Lib.hid hTo
        have Hb7 := Lib.hid hb7o
        clear hTo hb7o hoo
        go_wp2_with fail
        refine (b_CNextE w7 HT.out (Co.l_next m j) (Co.l_nextT m j)).mono ?_
        rintro e wn ⟨aw, cw, ar, cr, rfl, hTn, hon⟩
        try dsimp only
        obtain ⟨w8, hwo⟩ : ∃ x, x = wn.alloc (.cells #[.int .i64 0, .int .i64 0, .int .i64 0, .int .i64 0, .int .i64 0, .slice aw 0 cw, .slice ar 0 cr, .int .i64 0, .bool false, .int .i64 0] 37) := ⟨_, rfl⟩
        have hho : w8.heap[wn.heap.size]? = some (.cells #[.int .i64 0, .int .i64 0, .int .i64 0, .int .i64 0, .int .i64 0, .slice aw 0 cw, .slice ar 0 cr, .int .i64 0, .bool false, .int .i64 0] 37 (0, 0)) := by rw [hwo]; exact heap_alloc_new wn _
        have hbo : Below wn.heap.size wn w8 := by rw [hwo]; exact alloc_below _ _
        obtain ⟨q, hq⟩ : ∃ q, q = wn.heap.size := ⟨_, rfl⟩
        rw [← hq] at hho
        have hTo := hTn.keep (hbo.mono hTn.size)
        have hb7o : Below C wc0 w8 := Hb7.out.trans ((hon.below (Nat.le_trans HT.out.low HT.out.size) (fun k hk => hk.1)).trans (hbo.mono (Nat.le_trans HT.out.low hTn.size)))
        have HT := Lib.hid hTo
        have Hb7 := Lib.hid hb7o
        clear hTo hb7o hbo hho hon hTn
        go_upto_region 15 with fail
        try dsimp only [List.length]
        rw [← hwo, ← hq]
        clear hwo hq
        obtain ⟨w9, hw9⟩ : ∃ x, x = w8.alloc (.cells #[.int .i64 4] 3) := ⟨_, rfl⟩
        have hb9 : Below w8.heap.size w8 w9 := by rw [hw9]; exact alloc_below _ _
        have hsl : Sl EInt (fun k => S ≤ k) w9 (some ⟨w8.heap.size, 0, none⟩) [4] := by rw [hw9]; exact sl_one (heap_alloc_new w8 _) ⟨rfl, by decide, by decide⟩ HT.out.size
        have hT9 := HT.out.keep (hb9.mono HT.out.size)
        have hb79 := Hb7.out.trans (hb9.mono (Nat.le_trans HT.out.low HT.out.size))
        obtain ⟨q9, hq9⟩ : ∃ q, q = w8.heap.size := ⟨_, rfl⟩
        rw [← hq9] at hsl
        have Hsl := Lib.hid hsl
        have HT := Lib.hid hT9
        have Hb7 := Lib.hid hb79
        clear hsl hT9 hb79 hb9
        go_wp2_with fail
        rw [← hw9, ← hq9]
        clear hw9 hq9
        refine (b_CIn ⟨0, [4], 0, 0, 0, ⟨0, false, 0⟩⟩ (some ⟨q9, 0, none⟩) 1 1 w9 HT.out rfl (by unfold maxLen; decide) Hsl.out (.inl (by show (1 : Int) ≤ 3; decide)) (show (0 : Int) ≤ 1 ∧ (1 : Int) ≤ 8 by decide)).mono ?_
        rintro e w10 ⟨rfl, hTo, hoo⟩
        rw [Co.l_in] at hTo
        have hb7o : Below C wc0 w10 := Hb7.out.trans (hoo.below (Nat.le_trans HT.out.low HT.out.size) (fun k hk => hk.1))
        have HT := Lib.hid hTo
        have Hb7 := Lib.hid hb7o
        clear hTo hb7o hoo
        go_wp2_with fail
        refine (b_CTick w10 HT.out (by show (j : Int) ≤ 999; omega)).mono ?_
        rintro e w11 ⟨rfl, hTo, hoo⟩
        rw [Co.l_tick] at hTo
        have hb7o : Below C wc0 w11 := Hb7.out.trans (hoo.below (Nat.le_trans HT.out.low HT.out.size) (fun k hk => hk.1))
        have HT := Lib.hid hTo
        have Hb7 := Lib.hid hb7o
        clear hTo hb7o hoo
        go_wp2_with fail
        go_roundg (m + 1 - (j + 1))
        case measure => rw [hgn.out]; omega
        case rel => exact ⟨j + 1, Lib.hid rfl, by omega, by go_num, Hb7, Lib.hid (.inl ⟨by omega, HT.out⟩)⟩
      · have hjm : j = m := by omega
        subst hjm
        go_wp2_with fail
        refine (b_CIn ⟨60, [], 0, by_, home, ⟨0, false, 0⟩⟩ none 0 0 w6 HT.out rfl (by unfold maxLen; decide) (Sl.nil _ _ _ _) (.inl (by show (1 : Int) ≤ 3; decide)) (show (0 : Int) ≤ 1 ∧ (1 : Int) ≤ 8 by decide)).mono ?_
        rintro e w7 ⟨rfl, hTo, hoo⟩
        rw [Co.w_last] at hTo
        have hb7o : Below C wc0 w7 := Hb7.out.trans (hoo.below (Nat.le_trans HT.out.low HT.out.size) (fun k hk => hk.1))
        have HT := Lib.hid hTo
        have Hb7 := Lib.hid hb7o
        clear hTo hb7o hoo
        go_wp2_with fail
        go_roundg (j + 1 - (j + 1))
        case measure => rw [hgn.out]; omega
        case rel => exact ⟨j + 1, Lib.hid rfl, by omega, by go_num, Hb7, Lib.hid (.inr ⟨rfl, HT.out⟩)⟩
    · have hTm : TxB C S wr g (Co.wS m by_ home) := by
        rcases hTj.out with h | h
        · omega
        · exact h.2
      have HT := Lib.hid hTm
      have hji : ¬ ((j : Int) ≤ (m : Int)) := by omega
      clear hTm hTj
      go_wp2_with fail
      refine (b_CNextE wr HT.out (Co.s_next m by_ home) (Co.s_nextT m by_ home)).mono ?_
      rintro e wn ⟨aw, cw, ar, cr, rfl, hTn, hon⟩
      try dsimp only
      obtain ⟨w6, hwo⟩ : ∃ x, x = wn.alloc (.cells #[.int .i64 home, .int .i64 4, .int .i64 0, .int .i64 0, .int .i64 0, .slice aw 0 cw, .slice ar 0 cr, .int .i64 by_, .bool false, .int .i64 0] 37) := ⟨_, rfl⟩
      have hho : w6.heap[wn.heap.size]? = some (.cells #[.int .i64 home, .int .i64 4, .int .i64 0, .int .i64 0, .int .i64 0, .slice aw 0 cw, .slice ar 0 cr, .int .i64 by_, .bool false, .int .i64 0] 37 (0, 0)) := by rw [hwo]; exact heap_alloc_new wn _
      have hbo : Below wn.heap.size wn w6 := by rw [hwo]; exact alloc_below _ _
      obtain ⟨q, hq⟩ : ∃ q, q = wn.heap.size := ⟨_, rfl⟩
      rw [← hq] at hho
      have q0 : w6.cell? ⟨q, 0, none⟩ = some (.int .i64 home) := by simp [World.cell?, hho]
      have q1 : w6.cell? ⟨q, 1, none⟩ = some (.int .i64 4) := by simp [World.cell?, hho]
      have q7 : w6.cell? ⟨q, 7, none⟩ = some (.int .i64 by_) := by simp [World.cell?, hho]
      have q8 : w6.cell? ⟨q, 8, none⟩ = some (.bool false) := by simp [World.cell?, hho]
      have q9 : w6.cell? ⟨q, 9, none⟩ = some (.int .i64 0) := by simp [World.cell?, hho]
      have hTo := hTn.keep (hbo.mono hTn.size)
      have hb7o : Below C wc0 w6 := Hb7.out.trans ((hon.below (Nat.le_trans HT.out.low HT.out.size) (fun k hk => hk.1)).trans (hbo.mono (Nat.le_trans HT.out.low hTn.size)))
      have HT := Lib.hid hTo
      have Hb7 := Lib.hid hb7o
      clear hTo hb7o hbo hho hon hTn
      go_upto_region 20 with fail
      try dsimp only [List.length]
      rw [← hwo, ← hq]
      clear hwo hq
      have e0 : w6.cell? ⟨B, 0, none⟩ = some (.int .i64 et) := by rw [cell_keep (Hb7.out.block B hBC)]; simp [World.cell?, Hh3.out]
      have e1 : w6.cell? ⟨B, 1, none⟩ = some (.bool ec) := by rw [cell_keep (Hb7.out.block B hBC)]; simp [World.cell?, Hh3.out]
      have e2 : w6.cell? ⟨B, 2, none⟩ = some (.int .i64 ea) := by rw [cell_keep (Hb7.out.block B hBC)]; simp [World.cell?, Hh3.out]
      go_wp2_with fail
      refine (b_CIn ⟨0, [], 0, 0, 0, ⟨et, ec, ea⟩⟩ none 0 0 w6 HT.out rfl (by unfold maxLen; decide) (Sl.nil _ _ _ _) (.inl (by show (1 : Int) ≤ 3; decide)) (show (0 : Int) ≤ 2 ∧ (2 : Int) ≤ 8 by decide)).mono ?_
      rintro e w7 ⟨rfl, hTo, hoo⟩
      rw [Co.s_in] at hTo
      have hb7o : Below C wc0 w7 := Hb7.out.trans (hoo.below (Nat.le_trans HT.out.low HT.out.size) (fun k hk => hk.1))
      have HT := Lib.hid hTo
      have Hb7 := Lib.hid hb7o
      clear hTo hb7o hoo
      clear e0 e1 e2 q0 q1 q7 q8 q9
      go_wp2_with fail
      refine (b_CNextE w7 HT.out (Co.s1_next m by_ home ⟨et, ec, ea⟩) (Co.s1_nextT m by_ home ⟨et, ec, ea⟩)).mono ?_
      rintro e wn ⟨aw, cw, ar, cr, rfl, hTn, hon⟩
      try dsimp only
      obtain ⟨w8, hwo⟩ : ∃ x, x = wn.alloc (.cells #[.int .i64 1, .int .i64 5, .int .i64 0, .int .i64 0, .int .i64 0, .slice aw 0 cw, .slice ar 0 cr, .int .i64 et, .bool ec, .int .i64 ea] 37) := ⟨_, rfl⟩
      have hho : w8.heap[wn.heap.size]? = some (.cells #[.int .i64 1, .int .i64 5, .int .i64 0, .int .i64 0, .int .i64 0, .slice aw 0 cw, .slice ar 0 cr, .int .i64 et, .bool ec, .int .i64 ea] 37 (0, 0)) := by rw [hwo]; exact heap_alloc_new wn _
      have hbo : Below wn.heap.size wn w8 := by rw [hwo]; exact alloc_below _ _
      obtain ⟨q, hq⟩ : ∃ q, q = wn.heap.size := ⟨_, rfl⟩
      rw [← hq] at hho
      have q0 : w8.cell? ⟨q, 0, none⟩ = some (.int .i64 1) := by simp [World.cell?, hho]
      have q1 : w8.cell? ⟨q, 1, none⟩ = some (.int .i64 5) := by simp [World.cell?, hho]
      have q7 : w8.cell? ⟨q, 7, none⟩ = some (.int .i64 et) := by simp [World.cell?, hho]
      have q8 : w8.cell? ⟨q, 8, none⟩ = some (.bool ec) := by simp [World.cell?, hho]
      have q9 : w8.cell? ⟨q, 9, none⟩ = some (.int .i64 ea) := by simp [World.cell?, hho]
      have hTo := hTn.keep (hbo.mono hTn.size)
      have hb7o : Below C wc0 w8 := Hb7.out.trans ((hon.below (Nat.le_trans HT.out.low HT.out.size) (fun k hk => hk.1)).trans (hbo.mono (Nat.le_trans HT.out.low hTn.size)))
      have HT := Lib.hid hTo
      have Hb7 := Lib.hid hb7o
      clear hTo hb7o hbo hho hon hTn
      go_upto_region 24 with fail
      try dsimp only [List.length]
      rw [← hwo, ← hq]
      clear hwo hq
      have e0 : w8.cell? ⟨B, 0, none⟩ = some (.int .i64 et) := by rw [cell_keep (Hb7.out.block B hBC)]; simp [World.cell?, Hh3.out]
      have e1 : w8.cell? ⟨B, 1, none⟩ = some (.bool ec) := by rw [cell_keep (Hb7.out.block B hBC)]; simp [World.cell?, Hh3.out]
      have e2 : w8.cell? ⟨B, 2, none⟩ = some (.int .i64 ea) := by rw [cell_keep (Hb7.out.block B hBC)]; simp [World.cell?, Hh3.out]
      go_wp2_with fail
      refine (b_CIn ⟨0, [], 0, 0, 0, ⟨0, false, 0⟩⟩ none 0 0 w8 HT.out rfl (by unfold maxLen; decide) (Sl.nil _ _ _ _) (.inl (by show (1 : Int) ≤ 3; decide)) (show (0 : Int) ≤ 3 ∧ (3 : Int) ≤ 8 by decide)).mono ?_
      rintro e w9 ⟨rfl, hTo, hoo⟩
      rw [Co.s1_in] at hTo
      have hb7o : Below C wc0 w9 := Hb7.out.trans (hoo.below (Nat.le_trans HT.out.low HT.out.size) (fun k hk => hk.1))
      have HT := Lib.hid hTo
      have Hb7 := Lib.hid hb7o
      clear hTo hb7o hoo
      clear e0 e1 e2 q0 q1 q7 q8 q9
      go_wp2_with fail
      refine (b_CNextE w9 HT.out (Co.s2_next m by_ home ⟨et, ec, ea⟩) (Co.s2_nextT m by_ home ⟨et, ec, ea⟩)).mono ?_
      rintro e wn ⟨aw, cw, ar, cr, rfl, hTn, hon⟩
      try dsimp only
      obtain ⟨w10, hwo⟩ : ∃ x, x = wn.alloc (.cells #[.int .i64 1, .int .i64 2, .int .i64 9, .int .i64 0, .int .i64 5, .slice aw 0 cw, .slice ar 1 cr, .int .i64 0, .bool false, .int .i64 0] 37) := ⟨_, rfl⟩
      have hho : w10.heap[wn.heap.size]? = some (.cells #[.int .i64 1, .int .i64 2, .int .i64 9, .int .i64 0, .int .i64 5, .slice aw 0 cw, .slice ar 1 cr, .int .i64 0, .bool false, .int .i64 0] 37 (0, 0)) := by rw [hwo]; exact heap_alloc_new wn _
      have hbo : Below wn.heap.size wn w10 := by rw [hwo]; exact alloc_below _ _
      obtain ⟨q, hq⟩ : ∃ q, q = wn.heap.size := ⟨_, rfl⟩
      rw [← hq] at hho
      have q0 : w10.cell? ⟨q, 0, none⟩ = some (.int .i64 1) := by simp [World.cell?, hho]
      have q1 : w10.cell? ⟨q, 1, none⟩ = some (.int .i64 2) := by simp [World.cell?, hho]
      have hTo := hTn.keep (hbo.mono hTn.size)
      have hb7o : Below C wc0 w10 := Hb7.out.trans ((hon.below (Nat.le_trans HT.out.low HT.out.size) (fun k hk => hk.1)).trans (hbo.mono (Nat.le_trans HT.out.low hTn.size)))
      have HT := Lib.hid hTo
      have Hb7 := Lib.hid hb7o
      clear hTo hb7o hbo hho hon hTn
      go_upto_region 28 with fail
      try dsimp only [List.length]
      rw [← hwo, ← hq]
      clear hwo hq
      go_wp2_with fail
      refine (b_COver w10 HT.out).mono ?_
      rw [show ((Co.wS2 m by_ home ⟨et, ec, ea⟩).stage == 8) = false from rfl]
      rintro e wt ⟨rfl, rfl⟩
      go_wp2_with fail
      refine (b_CDoubt w10 HT.out).mono ?_
      rw [show ((Co.wS2 m by_ home ⟨et, ec, ea⟩).doubt && (Co.wS2 m by_ home ⟨et, ec, ea⟩).res == 0) = false from rfl]
      rintro e wt ⟨rfl, rfl⟩
      obtain ⟨w11, hw11⟩ : ∃ x, x = w10.alloc (.cells #[.int .i64 8] 3) := ⟨_, rfl⟩
      have hb11 : Below w10.heap.size w10 w11 := by rw [hw11]; exact alloc_below _ _
      have hsl : Sl EInt (fun k => S ≤ k) w11 (some ⟨w10.heap.size, 0, none⟩) [8] := by rw [hw11]; exact sl_one (heap_alloc_new w10 _) ⟨rfl, by decide, by decide⟩ HT.out.size
      have hT11 := HT.out.keep (hb11.mono HT.out.size)
      have hb711 := Hb7.out.trans (hb11.mono (Nat.le_trans HT.out.low HT.out.size))
      obtain ⟨q11, hq11⟩ : ∃ q, q = w10.heap.size := ⟨_, rfl⟩
      rw [← hq11] at hsl
      have Hsl := Lib.hid hsl
      have HT := Lib.hid hT11
      have Hb7 := Lib.hid hb711
      clear hsl hT11 hb711 hb11 q0 q1
      go_wp2_with fail
      rw [← hw11, ← hq11]
      clear hw11 hq11
      refine (b_CIn ⟨0, [8], 0, 0, 0, ⟨0, false, 0⟩⟩ (some ⟨q11, 0, none⟩) 1 1 w11 HT.out rfl (by unfold maxLen; decide) Hsl.out (.inl (by show (1 : Int) ≤ 3; decide)) (show (0 : Int) ≤ 1 ∧ (1 : Int) ≤ 8 by decide)).mono ?_
      rintro e w12 ⟨rfl, hTo, hoo⟩
      obtain ⟨f1, f2, f3⟩ := Co.s2_in m by_ home ⟨et, ec, ea⟩
      obtain ⟨TF, hTF⟩ : ∃ T, T = Co.inT (Co.wS2 m by_ home ⟨et, ec, ea⟩) ⟨0, [8], 0, 0, 0, ⟨0, false, 0⟩⟩ := ⟨_, rfl⟩
      rw [← hTF] at f1 f2 f3 hTo
      have hb7o : Below C wc0 w12 := Hb7.out.trans (hoo.below (Nat.le_trans HT.out.low HT.out.size) (fun k hk => hk.1))
      have HT := Lib.hid hTo
      have Hb7 := Lib.hid hb7o
      have F1 := Lib.hid f1
      have F2 := Lib.hid f2
      have F3 := Lib.hid f3
      clear hTo hb7o hoo hTF f1 f2 f3
      go_wp2_with fail
      refine (b_CResult w12 HT.out).mono ?_
      rintro e w13 ⟨v, rfl, hov, hb13⟩
      rw [F1.out]
      rw [F3.out] at hov
      obtain ⟨av, cv, rfl, hcv, hmv, hrv, _⟩ := hov.shape 1 rfl
      have hT13 := HT.out.keep (hb13.mono HT.out.size)
      have hb713 := Hb7.out.trans (hb13.mono (Nat.le_trans HT.out.low HT.out.size))
      obtain ⟨b1, o1, rfl, _, _, _, v2, _⟩ := cop_at (OwnC.sl hov) 0 (by decide)
      have V2 := Lib.hid v2
      have HT := Lib.hid hT13
      have Hb7 := Lib.hid hb713
      clear hov hrv hb13 hT13 hb713 v2
      go_wp2_with fail
      refine (b_CNext_nil w13).mono ?_
      rintro e w14 ⟨rfl, hb14⟩
      obtain ⟨w15, hw15⟩ : ∃ x, x = w14.alloc (.cells #[.int .i64 0, .int .i64 0, .int .i64 0, .int .i64 0, .int .i64 0, .slice none 0 0, .slice none 0 0, .int .i64 0, .bool false, .int .i64 0] 37) := ⟨_, rfl⟩
      have hb15 : Below w14.heap.size w14 w15 := by rw [hw15]; exact alloc_below _ _
      have hb1315 : Below w13.heap.size w13 w15 := hb14.trans (hb15.mono hb14.size)
      have v2 := cell_thru V2.out hb1315
      have hT15 := HT.out.keep (hb1315.mono HT.out.size)
      have hb715 := Hb7.out.trans (hb1315.mono (Nat.le_trans HT.out.low HT.out.size))
      have V2 := Lib.hid v2
      have HT := Lib.hid hT15
      have Hb7 := Lib.hid hb715
      clear hb14 hb15 hb1315 v2 hT15 hb715
      go_upto_region 34 with fail
      rw [← hw15]
      clear hw15
      go_wp2_with fail
      refine (co_Tick_nil w15).mono ?_
      rintro e wt ⟨rfl, rfl⟩
      go_wp2_with fail
      refine (co_Result_nil w15).mono ?_
      rintro e wt ⟨rfl, rfl⟩
      have v2 : w15.cell? ⟨b1, o1 + 2, none⟩ = some (.int .i64 8) := by have := V2.out; simpa using this
      go_wp2_with fail
      refine (b_COver w15 HT.out).mono ?_
      rw [F2.out]
      rintro e wt ⟨rfl, rfl⟩
      go_wp2_with fail
      refine (co_Over_nil w15).mono ?_
      rintro e wt ⟨rfl, rfl⟩
      go_wp2_with fail
      refine (co_Doubt_nil w15).mono ?_
      rintro e wt ⟨rfl, rfl⟩
      go_wp2_with fail
      go_ret
      exact ⟨rfl, HB3.out.trans (Hb7.out.mono (by omega))⟩
abbrev EndT : Type := Int × Bool × Int
def EEnd : Enc EndT := EPair EInt (EPair EBool EInt)
theorem reads_end : Reads Try.prog 33 EEnd (fun _ => 1 + (1 + 1)) := by
  refine reads_struct (E := EEnd) (m := fun _ => 1 + (1 + 1)) Try.underlying33 (by kernel_rfl) ?_
  refine fields_cons (off := 0) (A := EInt) (B := EPair EBool EInt) (m := fun _ => 1) (n := fun _ => 1 + 1) (by rfl) (by kernel_rfl) (reads_int Try.underlying3) ?_
  refine fields_cons (off := 1) (A := EBool) (B := EInt) (m := fun _ => 1) (n := fun _ => 1) (by rfl) (by kernel_rfl) (reads_bool Try.underlying4) ?_
  exact fields_one (off := 2) (by rfl) (by kernel_rfl) (reads_int Try.underlying3)
theorem end_val {ok : Nat → Prop} {w : World} {cs : Array Value} {x : EndT} (h : EEnd.rep ok w cs.toList x) : cs = #[.int .i64 x.1, .bool x.2.1, .int .i64 x.2.2] ∧ (-9223372036854775808 ≤ x.1 ∧ x.1 ≤ 9223372036854775807) ∧ (-9223372036854775808 ≤ x.2.2 ∧ x.2.2 ≤ 9223372036854775807) := by
  obtain ⟨c1, r1, e1, h1, c2, r2, e2, h2, h3⟩ := h
  obtain rfl : c1 = [.int .i64 x.1] := h1.1
  obtain rfl : c2 = [.bool x.2.1] := h2
  obtain rfl : r2 = [.int .i64 x.2.2] := h3.1
  refine ⟨?_, h1.2, h3.2⟩
  apply Array.ext'
  rw [e1, e2]
  rfl
theorem law_CoordWaits (pt by_ home : Int) (cs : Array Value) (x : EndT) (w : World) (h0 : -9223372036854775808 ≤ pt ∧ pt ≤ 9223372036854775807) (h1 : -9223372036854775808 ≤ by_ ∧ by_ ≤ 9223372036854775807) (h2 : -9223372036854775808 ≤ home ∧ home ≤ 9223372036854775807) (hx : EEnd.rep (fun _ => True) w cs.toList x) :
    Calls Try.prog 4 #[.int .i64 pt, .int .i64 by_, .int .i64 home, .agg cs] w fun e w' => e = .returned (.bool true) ∧ Below w.heap.size w w' := by
  obtain ⟨rfl, _, _⟩ := end_val hx
  exact walk_CoordWaits pt by_ home x.1 x.2.1 x.2.2 w
end Go.Proofs.Ytmmgnbdngpkfcaa

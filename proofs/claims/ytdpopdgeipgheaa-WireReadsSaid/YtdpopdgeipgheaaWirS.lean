
/-
  The document's own comparison of messages: of messages that say the same.
-/
import Derived.Test.YtdpopdgeipgheaaWirR
namespace Go.Proofs.Ytdpopdgeipgheaa
open Go.RowKit
set_option linter.unusedVariables false

theorem eq_nine (xs : List Int) (w : World) : (Op.equalIn 10000 33 (.agg #[.int .i64 (Wi.nth xs 0), .int .i64 (Wi.nth xs 1), .int .i64 (Wi.nth xs 2), .int .i64 (Wi.nth xs 3), .int .i64 (Wi.nth xs 4), .int .i64 (Wi.nth xs 5), .int .i64 (Wi.nth xs 6), .int .i64 (Wi.nth xs 7), .int .i64 (Wi.nth xs 8)]) (.agg #[.int .i64 (Wi.nth xs 0), .int .i64 (Wi.nth xs 1), .int .i64 (Wi.nth xs 2), .int .i64 (Wi.nth xs 3), .int .i64 (Wi.nth xs 4), .int .i64 (Wi.nth xs 5), .int .i64 (Wi.nth xs 6), .int .i64 (Wi.nth xs 7), .int .i64 (Wi.nth xs 8)])).run Try.prog w = .ok true w := by
  obtain ⟨i, hi⟩ : ∃ i, Try.prog.info? 3 = some i := Option.isSome_iff_exists.1 (by kernel_rfl)
  have hp : ∀ (xs : Array Value) (j : Nat) (v : Value), xs[j]? = some v → (part 3 xs j).run Try.prog w = .ok v w := fun xs j v h1 => by
    simp [part, isAgg, run_underlying Try.underlying3, h1]
  have hq : ∀ (x : Int), (Op.equalIn 9999 3 (.int .i64 x) (.int .i64 x)).run Try.prog w = .ok true w := fun x => by
    rw [show (9999 : Nat) = 9998 + 1 from rfl, run_equalIn_int w 9998 3 .i64 .i64 x x Try.underlying3, beq_self_eq_true]
  rw [show (10000 : Nat) = 9999 + 1 from rfl, run_equalIn_array w 9999 _ _ Try.underlying33 hi]
  have hc : Try.prog.cellsOf 3 = 1 := by kernel_rfl
  rw [hc]
  show (Op.eqItems 9999 3 1 _ _ [0, 1, 2, 3, 4, 5, 6, 7, 8]).run Try.prog w = _
  have p0 := hp (#[Value.int .i64 (Wi.nth xs 0), .int .i64 (Wi.nth xs 1), .int .i64 (Wi.nth xs 2), .int .i64 (Wi.nth xs 3), .int .i64 (Wi.nth xs 4), .int .i64 (Wi.nth xs 5), .int .i64 (Wi.nth xs 6), .int .i64 (Wi.nth xs 7), .int .i64 (Wi.nth xs 8)] : Array Value) 0 _ rfl
  have p1 := hp (#[Value.int .i64 (Wi.nth xs 0), .int .i64 (Wi.nth xs 1), .int .i64 (Wi.nth xs 2), .int .i64 (Wi.nth xs 3), .int .i64 (Wi.nth xs 4), .int .i64 (Wi.nth xs 5), .int .i64 (Wi.nth xs 6), .int .i64 (Wi.nth xs 7), .int .i64 (Wi.nth xs 8)] : Array Value) 1 _ rfl
  have p2 := hp (#[Value.int .i64 (Wi.nth xs 0), .int .i64 (Wi.nth xs 1), .int .i64 (Wi.nth xs 2), .int .i64 (Wi.nth xs 3), .int .i64 (Wi.nth xs 4), .int .i64 (Wi.nth xs 5), .int .i64 (Wi.nth xs 6), .int .i64 (Wi.nth xs 7), .int .i64 (Wi.nth xs 8)] : Array Value) 2 _ rfl
  have p3 := hp (#[Value.int .i64 (Wi.nth xs 0), .int .i64 (Wi.nth xs 1), .int .i64 (Wi.nth xs 2), .int .i64 (Wi.nth xs 3), .int .i64 (Wi.nth xs 4), .int .i64 (Wi.nth xs 5), .int .i64 (Wi.nth xs 6), .int .i64 (Wi.nth xs 7), .int .i64 (Wi.nth xs 8)] : Array Value) 3 _ rfl
  have p4 := hp (#[Value.int .i64 (Wi.nth xs 0), .int .i64 (Wi.nth xs 1), .int .i64 (Wi.nth xs 2), .int .i64 (Wi.nth xs 3), .int .i64 (Wi.nth xs 4), .int .i64 (Wi.nth xs 5), .int .i64 (Wi.nth xs 6), .int .i64 (Wi.nth xs 7), .int .i64 (Wi.nth xs 8)] : Array Value) 4 _ rfl
  have p5 := hp (#[Value.int .i64 (Wi.nth xs 0), .int .i64 (Wi.nth xs 1), .int .i64 (Wi.nth xs 2), .int .i64 (Wi.nth xs 3), .int .i64 (Wi.nth xs 4), .int .i64 (Wi.nth xs 5), .int .i64 (Wi.nth xs 6), .int .i64 (Wi.nth xs 7), .int .i64 (Wi.nth xs 8)] : Array Value) 5 _ rfl
  have p6 := hp (#[Value.int .i64 (Wi.nth xs 0), .int .i64 (Wi.nth xs 1), .int .i64 (Wi.nth xs 2), .int .i64 (Wi.nth xs 3), .int .i64 (Wi.nth xs 4), .int .i64 (Wi.nth xs 5), .int .i64 (Wi.nth xs 6), .int .i64 (Wi.nth xs 7), .int .i64 (Wi.nth xs 8)] : Array Value) 6 _ rfl
  have p7 := hp (#[Value.int .i64 (Wi.nth xs 0), .int .i64 (Wi.nth xs 1), .int .i64 (Wi.nth xs 2), .int .i64 (Wi.nth xs 3), .int .i64 (Wi.nth xs 4), .int .i64 (Wi.nth xs 5), .int .i64 (Wi.nth xs 6), .int .i64 (Wi.nth xs 7), .int .i64 (Wi.nth xs 8)] : Array Value) 7 _ rfl
  have p8 := hp (#[Value.int .i64 (Wi.nth xs 0), .int .i64 (Wi.nth xs 1), .int .i64 (Wi.nth xs 2), .int .i64 (Wi.nth xs 3), .int .i64 (Wi.nth xs 4), .int .i64 (Wi.nth xs 5), .int .i64 (Wi.nth xs 6), .int .i64 (Wi.nth xs 7), .int .i64 (Wi.nth xs 8)] : Array Value) 8 _ rfl
  simp [Op.eqItems, hq, p0, p1, p2, p3, p4, p5, p6, p7, p8]

set_option maxRecDepth 100000 in
set_option maxHeartbeats 1600000 in
theorem ref15_Same (xs : List Int) (L : List (List (BitVec 8))) (D : List (BitVec 8)) (aL aL' : Option Addr) (cL cL' : Nat) (aD aD' : Option Addr) (cD cD' : Nat) (w : World)
    (hL : Sl EBytes (fun _ => True) w aL L) (hL' : Sl EBytes (fun _ => True) w aL' L) (hD : Sl EU8 (fun _ => True) w aD D) (hD' : Sl EU8 (fun _ => True) w aD' D) (hl : L.length ≤ 1000000) :
    Calls Try.prog 15 #[.agg (refCells xs aL L.length cL aD D.length cD), .agg (refCells xs aL' L.length cL' aD' D.length cD')] w fun e w' => e = .returned (.bool true) ∧ Below w.heap.size w w' := by
  obtain ⟨B, hB⟩ : ∃ B, B = w.heap.size := ⟨_, rfl⟩
  rw [← hB]
  obtain ⟨w1, hw1⟩ : ∃ x, x = (w.alloc (.cells (refCells xs aL L.length cL aD D.length cD) 35)).alloc (.cells (refCells xs aL' L.length cL' aD' D.length cD') 35) := ⟨_, rfl⟩
  have e1 : (w.alloc (.cells (refCells xs aL L.length cL aD D.length cD) 35)).heap.size = w.heap.size + 1 := by simp
  have hb1 : Below B w w1 := by subst hw1; subst hB; exact ((Below.refl _ _).alloc (Nat.le_refl _) _).alloc (by rw [e1]; omega) _
  have h1 : w1.heap[B]? = some (.cells (refCells xs aL L.length cL aD D.length cD) 35 (0, 0)) := by
    subst hw1; subst hB; rw [heap_alloc_old _ _ (by rw [e1]; omega)]; exact heap_alloc_new w _
  have h2 : w1.heap[B + 1]? = some (.cells (refCells xs aL' L.length cL' aD' D.length cD') 35 (0, 0)) := by
    have := heap_alloc_new (w.alloc (.cells (refCells xs aL L.length cL aD D.length cD) 35)) (.cells (refCells xs aL' L.length cL' aD' D.length cD') 35)
    rw [e1, ← hB] at this
    rw [hw1]; exact this
  have a0 : ∀ i (h : i < 9), w1.cell? ⟨B, i, none⟩ = some (.int .i64 (Wi.nth xs i)) := fun i h => by
    have e : i = 0 ∨ i = 1 ∨ i = 2 ∨ i = 3 ∨ i = 4 ∨ i = 5 ∨ i = 6 ∨ i = 7 ∨ i = 8 := by omega
    rcases e with rfl | rfl | rfl | rfl | rfl | rfl | rfl | rfl | rfl <;> simp [World.cell?, h1, refCells]
  have b0 : ∀ i (h : i < 9), w1.cell? ⟨B + 1, i, none⟩ = some (.int .i64 (Wi.nth xs i)) := fun i h => by
    have e : i = 0 ∨ i = 1 ∨ i = 2 ∨ i = 3 ∨ i = 4 ∨ i = 5 ∨ i = 6 ∨ i = 7 ∨ i = 8 := by omega
    rcases e with rfl | rfl | rfl | rfl | rfl | rfl | rfl | rfl | rfl <;> simp [World.cell?, h2, refCells]
  have p0 := a0 0 (by decide)
  have p1 := a0 1 (by decide)
  have p2 := a0 2 (by decide)
  have p3 := a0 3 (by decide)
  have p4 := a0 4 (by decide)
  have p5 := a0 5 (by decide)
  have p6 := a0 6 (by decide)
  have p7 := a0 7 (by decide)
  have p8 := a0 8 (by decide)
  have q0 := b0 0 (by decide)
  have q1 := b0 1 (by decide)
  have q2 := b0 2 (by decide)
  have q3 := b0 3 (by decide)
  have q4 := b0 4 (by decide)
  have q5 := b0 5 (by decide)
  have q6 := b0 6 (by decide)
  have q7 := b0 7 (by decide)
  have q8 := b0 8 (by decide)
  have p9 : w1.cell? ⟨B, 9, none⟩ = some (.slice aL L.length cL) := by simp [World.cell?, h1, refCells]
  have p10 : w1.cell? ⟨B, 10, none⟩ = some (.slice aD D.length cD) := by simp [World.cell?, h1, refCells]
  have q9 : w1.cell? ⟨B + 1, 9, none⟩ = some (.slice aL' L.length cL') := by simp [World.cell?, h2, refCells]
  have q10 : w1.cell? ⟨B + 1, 10, none⟩ = some (.slice aD' D.length cD') := by simp [World.cell?, h2, refCells]
  have HL := Lib.hid (hL.below (by decide) (by rw [← hB]; exact hb1))
  have HL' := Lib.hid (hL'.below (by decide) (by rw [← hB]; exact hb1))
  have hD1 : SB w1 aD D := hD.below (by decide) (by rw [← hB]; exact hb1)
  have hD1' : SB w1 aD' D := hD'.below (by decide) (by rw [← hB]; exact hb1)
  unfold refCells at hw1 ⊢
  clear hL hL' hD hD' h1 h2 e1 a0 b0
  go_enter Try.func15, Try.ntmps15
  go_upto_region 1 with fail
  rw [← hw1, ← hB]
  clear hw1 hB
  have hE := eq_nine xs
  have hnn : ((L.length : Int) != (L.length : Int)) = false := by simp
  go_wp2_with fail
  refine (ref_Same _ _ _ _ _ _ D D _ ⟨rfl, hD1⟩ ⟨rfl, hD1'⟩).mono ?_
  rw [beq_self_eq_true]
  rintro e w2 ⟨rfl, rfl⟩
  clear hE p0 p1 p2 p3 p4 p5 p6 p7 p8 q0 q1 q2 q3 q4 q5 q6 q7 q8 hD1 hD1'
  go_wp2_with fail
  have hBw : B ≤ w1.heap.size := Nat.le_of_lt (cell_lt p9)
  have P9 := Lib.hid p9
  have Q9 := Lib.hid q9
  clear p9 q9 p10 q10
  go_loopw [31] (fun i wr => ∃ j : Nat, j ≤ L.length ∧ i = .int .i64 j ∧ Below w1.heap.size w1 wr) (fun i _ => L.length - (intOf i).toNat)
  case atStart => exact ⟨0, Nat.zero_le _, rfl, Below.refl _ _⟩
  case round =>
    obtain ⟨j, hj, rfl, hb⟩ := hrel
    by_cases hlt : j < L.length
    · have hji : (j : Int) < (L.length : Int) := by omega
      have hj0 : (0 : Int) ≤ (j : Int) := by omega
      obtain ⟨b1, o1, a1, c1, rfl, r1, _, _, s1⟩ := sl_text HL.out j hlt
      obtain ⟨b2, o2, a2, c2, rfl, r2, _, _, s2⟩ := sl_text HL'.out j hlt
      have t9 := cell_thru P9.out hb
      have u9 := cell_thru Q9.out hb
      have x1 := cell_thru r1 hb
      have x2 := cell_thru r2 hb
      have k1 : RB wr.drew a1 L[j].length L[j] := ⟨rfl, s1.below (by decide) hb.drew⟩
      have k2 : RB wr.drew a2 L[j].length L[j] := ⟨rfl, s2.below (by decide) hb.drew⟩
      have Hb := Lib.hid hb
      clear r1 r2 hb
      go_upto_region 6 with fail
      go_region_held3 (fun W => W.cell? ⟨B, 9, none⟩ = some (.slice (some ⟨b1, o1, none⟩) L.length cL) ∧ W.cell? ⟨B + 1, 9, none⟩ = some (.slice (some ⟨b2, o2, none⟩) L.length cL') ∧ W.cell? ⟨b1, o1 + j, none⟩ = some (.slice a1 L[j].length c1) ∧ W.cell? ⟨b2, o2 + j, none⟩ = some (.slice a2 L[j].length c2))
        (go_keep)
        ((go_at_call 13; refine (ref_Same _ _ _ _ _ _ L[j] L[j] wr.drew k1 k2).mono ?_; rw [beq_self_eq_true]; rintro e w5 ⟨rfl, rfl⟩))
      go_wp2_with fail
      go_roundw
      case rel => exact ⟨j + 1, by omega, by go_num, Hb.out.drew⟩
      case measure => simp [intOf]; omega
    · have hji : ¬ ((j : Int) < (L.length : Int)) := by omega
      go_wp2_with fail
      go_ret
      exact ⟨rfl, hb1.trans (hb.mono hBw)⟩
end Go.Proofs.Ytdpopdgeipgheaa

/-
  The walk of the law 'CrcPatches'.
-/
import Derived.Test.YtcmkkilhipnbcaaCrcBackWalk
import Derived.Test.YtcmkkilhipnbcaaCrcPatch
namespace Go.Proofs.Ytcmkkilhipnbcaa
open Go.RowKit
set_option linter.unusedVariables false

theorem reads_arr4 : Reads Try.prog 36 (EArr 4) (fun _ => 1) := reads_arr Try.underlying36 Try.underlying5 (by kernel_rfl) (by kernel_rfl)

theorem eq_arr4 (a0 a1 a2 a3 b0 b1 b2 b3 : BitVec 8) (w : World) :
    (Op.equalIn 10000 36 (.agg #[.int .u8 (bv a0), .int .u8 (bv a1), .int .u8 (bv a2), .int .u8 (bv a3)]) (.agg #[.int .u8 (bv b0), .int .u8 (bv b1), .int .u8 (bv b2), .int .u8 (bv b3)])).run Try.prog w = .ok ([a0, a1, a2, a3] == [b0, b1, b2, b3]) w := by
  obtain ⟨i, z, hi, _⟩ := ti_bytes.info
  have hp : ∀ (xs : Array Value) (j : Nat) (v : Value), xs[j]? = some v → (part 5 xs j).run Try.prog w = .ok v w := fun xs j v h1 => by
    simp [part, isAgg, run_underlying Try.underlying5, h1]
  have hq : ∀ (x y : BitVec 8), (Op.equalIn 9999 5 (.int .u8 (bv x)) (.int .u8 (bv y))).run Try.prog w = .ok (x == y) w := fun x y => by
    rw [show (9999 : Nat) = 9998 + 1 from rfl, run_equalIn_int w 9998 5 .u8 .u8 (bv x) (bv y) Try.underlying5, bv_beq]
  rw [show (10000 : Nat) = 9999 + 1 from rfl, run_equalIn_array w 9999 _ _ Try.underlying36 hi]
  have hc : Try.prog.cellsOf 5 = 1 := by kernel_rfl
  rw [hc]
  show (Op.eqItems 9999 5 1 _ _ [0, 1, 2, 3]).run Try.prog w = _
  have pa0 := hp (#[Value.int .u8 (bv a0), .int .u8 (bv a1), .int .u8 (bv a2), .int .u8 (bv a3)] : Array Value) 0 _ rfl
  have pa1 := hp (#[Value.int .u8 (bv a0), .int .u8 (bv a1), .int .u8 (bv a2), .int .u8 (bv a3)] : Array Value) 1 _ rfl
  have pa2 := hp (#[Value.int .u8 (bv a0), .int .u8 (bv a1), .int .u8 (bv a2), .int .u8 (bv a3)] : Array Value) 2 _ rfl
  have pa3 := hp (#[Value.int .u8 (bv a0), .int .u8 (bv a1), .int .u8 (bv a2), .int .u8 (bv a3)] : Array Value) 3 _ rfl
  have pb0 := hp (#[Value.int .u8 (bv b0), .int .u8 (bv b1), .int .u8 (bv b2), .int .u8 (bv b3)] : Array Value) 0 _ rfl
  have pb1 := hp (#[Value.int .u8 (bv b0), .int .u8 (bv b1), .int .u8 (bv b2), .int .u8 (bv b3)] : Array Value) 1 _ rfl
  have pb2 := hp (#[Value.int .u8 (bv b0), .int .u8 (bv b1), .int .u8 (bv b2), .int .u8 (bv b3)] : Array Value) 2 _ rfl
  have pb3 := hp (#[Value.int .u8 (bv b0), .int .u8 (bv b1), .int .u8 (bv b2), .int .u8 (bv b3)] : Array Value) 3 _ rfl
  cases h0 : (a0 == b0) <;> cases h1 : (a1 == b1) <;> cases h2 : (a2 == b2) <;> cases h3 : (a3 == b3) <;> simp [Op.eqItems, hq, pa0, pa1, pa2, pa3, pb0, pb1, pb2, pb3, h0, h1, h2, h3]

set_option maxHeartbeats 1600000 in
theorem law_CrcPatches (a : Option Addr) (c : Nat) (l : List (BitVec 8)) (want : BitVec 32) (cs : Array Value) (o : List (BitVec 8)) (w : World) (hs : SB w a l) (hc : l.length ≤ c) (hm : c ≤ maxLen) (hx : (EArr 4).rep (fun _ => True) w cs.toList o) :
    Calls Try.prog 8 #[.slice a l.length c, .int .u32 (bv want), .agg cs] w fun e w' => e = .returned (.bool true) ∧ Below w.heap.size w w' := by
  obtain ⟨ho4, hcs⟩ := hx
  obtain ⟨o0, o1, o2, o3, rfl⟩ : ∃ o0 o1 o2 o3, o = [o0, o1, o2, o3] := by
    match o, ho4 with
    | [o0, o1, o2, o3], _ => exact ⟨o0, o1, o2, o3, rfl⟩
  obtain rfl : cs = #[.int .u8 (bv o0), .int .u8 (bv o1), .int .u8 (bv o2), .int .u8 (bv o3)] := Array.toList_inj.1 (by rw [hcs]; rfl)
  clear hcs ho4
  by_cases hbig : 3000 < l.length
  · go_enter Try.func8, Try.ntmps8
    go_wp2_with (go_at_call 14; refine (crc_head _).mono ?_; rintro e w1 ⟨rfl, hb⟩)
    go_ret
    exact ⟨rfl, ((Below.refl _ _).alloc (Nat.le_refl _) _).trans (hb.mono (by simp))⟩
  · obtain ⟨w0, hw0⟩ : ∃ w0, w0 = w.alloc (.cells #[.int .u8 (bv o0), .int .u8 (bv o1), .int .u8 (bv o2), .int .u8 (bv o3)] 36) := ⟨_, rfl⟩
    have hb0 : Below w.heap.size w w0 := by subst hw0; exact (Below.refl _ _).alloc (Nat.le_refl _) _
    have hsz : w0.heap.size = w.heap.size + 1 := by subst hw0; simp
    have hbox : w0.heap[w.heap.size]? = some (.cells #[.int .u8 (bv o0), .int .u8 (bv o1), .int .u8 (bv o2), .int .u8 (bv o3)] 36 (0, 0)) := by subst hw0; exact heap_alloc_new w _
    have hs0 : SB w0 a l := hs.below (by decide) hb0
    have Hsz := Lib.hid hsz
    have Hbox := Lib.hid hbox
    clear hsz hbox
    go_enter Try.func8, Try.ntmps8
    go_wp2_with fail
    rw [← hw0]
    clear hw0
    refine (crc_head _).mono ?_
    rintro e w1 ⟨rfl, hb⟩
    have hs1 : SB w1 a l := hs0.below (by decide) hb
    go_wp2_with fail
    refine (crc_Sum _ _ _ l _ ⟨rfl, hs1⟩ (by unfold maxLen; omega)).mono ?_
    rintro e w' ⟨rfl, rfl⟩
    go_wp2_with fail
    refine (crc_Patch _ _ _).mono ?_
    rintro e w2 ⟨rfl, hb2⟩
    have hs2 : SB w2 a l := hs1.below (by decide) hb2
    obtain ⟨p0, p1, p2, p3, hp⟩ : ∃ p0 p1 p2 p3, Crc.patch (Crc.sum l) want = [p0, p1, p2, p3] := ⟨_, _, _, _, rfl⟩
    rw [show arr (Crc.patch (Crc.sum l) want) = .agg #[.int .u8 (bv p0), .int .u8 (bv p1), .int .u8 (bv p2), .int .u8 (bv p3)] by rw [hp]; rfl]
    have Hp := Lib.hid hp
    clear hp
    go_wp2_with fail
    have hsW : ∀ W : World, W.heap = (w2.alloc (.cells #[.int .u8 (bv p0), .int .u8 (bv p1), .int .u8 (bv p2), .int .u8 (bv p3)] 36)).heap → SB W a l := fun W hW =>
      (hs2.below (by decide) ((Below.refl _ _).alloc (Nat.le_refl _) (.cells #[.int .u8 (bv p0), .int .u8 (bv p1), .int .u8 (bv p2), .int .u8 (bv p3)] 36))).heap (by decide) hW
    have hsrc : ∀ (W w3 : World) (v3 : Value), W.heap = (w2.alloc (.cells #[.int .u8 (bv p0), .int .u8 (bv p1), .int .u8 (bv p2), .int .u8 (bv p3)] 36)).heap → Own EU8 5 (w2.heap.size + 1) w3 v3 l → Below (w2.heap.size + 1) W w3 →
        Sl EU8 (fun b => some b ≠ v3.ownBlock) w3 (some ⟨w2.heap.size, 0, none⟩) [p0, p1, p2, p3] := fun W w3 v3 hW ho hb => by
      refine sl_cells (cs := #[.int .u8 (bv p0), .int .u8 (bv p1), .int .u8 (bv p2), .int .u8 (bv p3)]) (te := 36) (fr := (0, 0)) ?_ rfl ?_
      · rw [hb.block _ (by omega), hW]; exact heap_alloc_new w2 _
      · intro e; have := (ho.lt _ e.symm).1; omega
    go_region_held3 (fun w' => True) (trivial)
      ((first
        | (go_at_call 15; refine (ref_Copy_at (w2.heap.size + 1) a _ c l _ (by simp) ⟨rfl, by exact hsW _ rfl⟩ (by omega)).mono ?_; rintro e w3 ⟨v3, rfl, ho3, hb3⟩)
        | (refine step_app (l2 := [p0, p1, p2, p3]) (m := 4) EU8 (by rfl) (by rfl) (by rfl) ti_bytes ho3 (by rfl) (by exact hsrc _ _ _ (by rfl) ho3 hb3) (by simp [maxLen]; omega) (by simp; omega) (by have := hb3.size; simp at this; omega) ?_; intro v4 w4 ho4 hg4 hv4 hb4)
        | (go_at_call 16; obtain ⟨a5, c5, rfl, h5, _, hs5⟩ := ho4.sl; refine (crc_Sum _ _ _ _ _ ⟨rfl, hs5⟩ (by simp [maxLen]; omega)).mono ?_; rintro e w' ⟨rfl, rfl⟩)))
    have hps := Lib.hid (Crc.patch_sum (Crc.sum l) want)
    have hpo := Lib.hid (Crc.patch_only (Crc.sum l) want [o0, o1, o2, o3] rfl)
    have hsa := Lib.hid (Crc.sum_app l [p0, p1, p2, p3])
    have hne : (want != want) = false := by simp
    rw [hsa.out, ← Hp.out, hps.out, hne]
    clear hne
    go_wp2_with fail
    have e0 : (w2.alloc (.cells #[.int .u8 (bv p0), .int .u8 (bv p1), .int .u8 (bv p2), .int .u8 (bv p3)] 36)).heap.size = w2.heap.size + 1 := by simp
    have e3 : w2.heap.size + 1 ≤ w3.heap.size := by have := hb3.size; rw [drew_size, e0] at this; exact this
    have e4 : w3.heap.size ≤ w4.heap.size := hb4.size
    have e2 : w.heap.size + 1 ≤ w2.heap.size := by have h1 := hb.size; have h2 := hb2.size; have h3 := Hsz.out; omega
    have hpB : w4.heap[w2.heap.size]? = some (.cells #[.int .u8 (bv p0), .int .u8 (bv p1), .int .u8 (bv p2), .int .u8 (bv p3)] 36 (0, 0)) := by
      rw [hb4.block _ (by omega), hb3.block _ (by omega)]; exact heap_alloc_new w2 _
    have hoB : w4.heap[w.heap.size]? = some (.cells #[.int .u8 (bv o0), .int .u8 (bv o1), .int .u8 (bv o2), .int .u8 (bv o3)] 36 (0, 0)) := by
      rw [hb4.block _ (by omega), hb3.block _ (by omega)]
      have := heap_alloc_old w2 (.cells #[.int .u8 (bv p0), .int .u8 (bv p1), .int .u8 (bv p2), .int .u8 (bv p3)] 36) (r := w.heap.size) (by omega)
      rw [show ((w2.alloc (.cells #[.int .u8 (bv p0), .int .u8 (bv p1), .int .u8 (bv p2), .int .u8 (bv p3)] 36)).drew).heap = (w2.alloc (.cells #[.int .u8 (bv p0), .int .u8 (bv p1), .int .u8 (bv p2), .int .u8 (bv p3)] 36)).heap from rfl, this, hb2.block _ (by have := hb.size; have := Hsz.out; omega), hb.block _ (by have := Hsz.out; omega)]
      exact Hbox.out
    have hA : Below w.heap.size w w4 := (((((hb0.trans (hb.mono (by have := Hsz.out; omega))).trans (hb2.mono (by have h1 := hb.size; have h2 := Hsz.out; omega))).alloc (by omega) _).drew.trans (hb3.mono (by omega))).trans (hb4.mono (by omega)))
    have hs4 : SB w4 a l := hs.below (by decide) hA
    have S8 : ∀ W : World, W.heap[w.heap.size]? = some (.cells #[.int .u8 (bv o0), .int .u8 (bv o1), .int .u8 (bv o2), .int .u8 (bv o3)] 36 (0, 0)) → W.heap[w2.heap.size]? = some (.cells #[.int .u8 (bv p0), .int .u8 (bv p1), .int .u8 (bv p2), .int .u8 (bv p3)] 36 (0, 0)) →
        W.cell? ⟨w.heap.size, 0, none⟩ = some (.int .u8 (bv o0)) ∧ W.cell? ⟨w.heap.size, 1, none⟩ = some (.int .u8 (bv o1)) ∧ W.cell? ⟨w.heap.size, 2, none⟩ = some (.int .u8 (bv o2)) ∧ W.cell? ⟨w.heap.size, 3, none⟩ = some (.int .u8 (bv o3)) ∧
        W.cell? ⟨w2.heap.size, 0, none⟩ = some (.int .u8 (bv p0)) ∧ W.cell? ⟨w2.heap.size, 1, none⟩ = some (.int .u8 (bv p1)) ∧ W.cell? ⟨w2.heap.size, 2, none⟩ = some (.int .u8 (bv p2)) ∧ W.cell? ⟨w2.heap.size, 3, none⟩ = some (.int .u8 (bv p3)) := fun W h1 h2 => by
      simp [World.cell?, h1, h2]
    have HoB := Lib.hid hoB
    have HpB := Lib.hid hpB
    have hS := S8 w4 hoB hpB
    obtain ⟨B4, hB4⟩ : ∃ B, w4.heap.size = B := ⟨_, rfl⟩
    have HB4 := Lib.hid hB4
    have hlt4 : w.heap.size < B4 ∧ w2.heap.size < B4 := by omega
    have hsrc2 : ∀ (w5 : World) (v5 : Value), Own EU8 5 B4 w5 v5 l → Below B4 w4.drew w5 → Sl EU8 (fun b => some b ≠ v5.ownBlock) w5 (some ⟨w.heap.size, 0, none⟩) [o0, o1, o2, o3] := fun w5 v5 ho hb => by
      refine sl_cells (cs := #[.int .u8 (bv o0), .int .u8 (bv o1), .int .u8 (bv o2), .int .u8 (bv o3)]) (te := 36) (fr := (0, 0)) ?_ rfl ?_
      · rw [hb.block _ hlt4.1]; exact HoB.out
      · intro e; have := (ho.lt _ e.symm).1; omega
    have K5 : ∀ w5 : World, Below B4 w4.drew w5 → _ := fun w5 hb => S8 w5 (by rw [hb.block _ hlt4.1]; exact HoB.out) (by rw [hb.block _ hlt4.2]; exact HpB.out)
    have heq := fun W => eq_arr4 o0 o1 o2 o3 p0 p1 p2 p3 W
    have hs4d : SB w4.drew a l := hs4.heap (by decide) rfl
    obtain ⟨q0, q1, q2, q3, q4, q5, q6, q7⟩ := hS
    clear hoB hpB hB4 hs4 hs2 hs1 hs0 e0 e3 e4 e2
    go_region_held3 (fun W => W.cell? ⟨w.heap.size, 0, none⟩ = some (.int .u8 (bv o0)) ∧ W.cell? ⟨w.heap.size, 1, none⟩ = some (.int .u8 (bv o1)) ∧ W.cell? ⟨w.heap.size, 2, none⟩ = some (.int .u8 (bv o2)) ∧ W.cell? ⟨w.heap.size, 3, none⟩ = some (.int .u8 (bv o3)) ∧
        W.cell? ⟨w2.heap.size, 0, none⟩ = some (.int .u8 (bv p0)) ∧ W.cell? ⟨w2.heap.size, 1, none⟩ = some (.int .u8 (bv p1)) ∧ W.cell? ⟨w2.heap.size, 2, none⟩ = some (.int .u8 (bv p2)) ∧ W.cell? ⟨w2.heap.size, 3, none⟩ = some (.int .u8 (bv p3)))
      (first | go_keep | exact K5 _ hb5 | exact K5 _ (hb5.trans hb6))
      ((first
        | (go_at_call 15; refine (ref_Copy_at B4 a _ c l _ (by exact HB4.out) ⟨rfl, by exact hs4d⟩ (by omega)).mono ?_; rintro e w5 ⟨v5, rfl, ho5, hb5⟩)
        | (refine step_app (l2 := [o0, o1, o2, o3]) (m := 4) EU8 (by rfl) (by rfl) (by rfl) ti_bytes ho5 (by rfl) (by exact hsrc2 _ _ ho5 hb5) (by simp [maxLen]; omega) (by simp; omega) (by have := hb5.size; rw [drew_size, HB4.out] at this; exact this) ?_; intro v6 w6 ho6 hg6 hv6 hb6)
        | (go_at_call 16; obtain ⟨a7, c7, rfl, h7, _, hs7⟩ := ho6.sl; refine (crc_Sum _ _ _ _ _ ⟨rfl, hs7⟩ (by simp [maxLen]; omega)).mono ?_; rintro e w' ⟨rfl, rfl⟩)))
    have hfin : ((Crc.sum (l ++ [o0, o1, o2, o3]) == want) == (o0 == p0 && (o1 == p1 && (o2 == p2 && o3 == p3)))) = true := by
      rw [Crc.sum_app, hpo.out, Hp.out]
      simp
    rw [hfin]
    clear hfin
    have hE : Below w.heap.size w w6 := (hA.drew.trans (hb5.mono (by omega))).trans (hb6.mono (by omega))
    go_wp2_with fail
    go_ret
    exact ⟨rfl, hE⟩
end Go.Proofs.Ytcmkkilhipnbcaa

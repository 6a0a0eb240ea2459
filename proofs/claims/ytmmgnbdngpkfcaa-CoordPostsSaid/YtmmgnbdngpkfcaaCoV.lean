
/-
  An answer's bytes: written.
-/
import Derived.Test.YtmmgnbdngpkfcaaCoU
namespace Go.Proofs.Ytmmgnbdngpkfcaa
open Go.RowKit
set_option linter.unusedVariables false

def valsB : List Int → Bts.Bits
  | [] => []
  | x :: l => Bts.int x ++ valsB l
theorem valsB_app : ∀ (l m : List Int), valsB (l ++ m) = valsB l ++ valsB m
  | [], m => rfl
  | x :: l, m => by show Bts.int x ++ valsB (l ++ m) = (Bts.int x ++ valsB l) ++ valsB m; rw [valsB_app, List.append_assoc]
theorem valsB_len : ∀ (l : List Int), (valsB l).length ≤ 129 * l.length
  | [] => Nat.le_refl _
  | x :: l => by
    show (Bts.int x ++ valsB l).length ≤ 129 * (l.length + 1)
    have h1 := valsB_len l
    have h2 := coint_len x
    rw [List.length_append]; omega
theorem valsB_snoc (l : List Int) (j : Nat) (hj : j < l.length) : valsB (l.take (j + 1)) = valsB (l.take j) ++ Bts.int l[j] := by
  rw [← List.take_append_getElem hj, valsB_app]
  show _ ++ (Bts.int l[j] ++ []) = _
  rw [List.append_nil]
def ansB (a : Co.An) : Bts.Bits := Bts.int a.err ++ (Bts.num (BitVec.ofNat 64 a.vals.length) ++ (valsB a.vals ++ (Bts.int a.at_ ++ (Bts.int a.by_ ++ (Bts.int a.home ++ endB a.e)))))
structure AnR (a : Co.An) : Prop where
  err : Bts.i64 a.err
  at_ : Bts.i64 a.at_
  by_ : Bts.i64 a.by_
  home : Bts.i64 a.home
  e : enR a.e
  few : a.vals.length ≤ 20
set_option maxRecDepth 4096 in
set_option maxHeartbeats 6400000 in
theorem co_aBytes (a : Co.An) (av : Option Addr) (n c : Nat) {ok : Nat → Prop} (w : World) (hn : n = a.vals.length) (hs : Sl EInt ok w av a.vals) (ha : AnR a) :
    Calls Try.prog 50 #[.agg (ansRow a (.slice av n c))] w fun e w' => ∃ v, e = .returned v ∧ Own EU8 5 w.heap.size w' v (Bts.pack (ansB a)) ∧ Below w.heap.size w w' := by
  obtain ⟨r1, r2, r3, r4, r5, r6⟩ := ha
  obtain ⟨E, hE⟩ : ∃ E, E = w.heap.size := ⟨_, rfl⟩
  obtain ⟨w1, hw1⟩ : ∃ x, x = w.alloc (.cells #[.int .i64 a.err, .slice av n c, .int .i64 a.at_, .int .i64 a.by_, .int .i64 a.home, .int .i64 a.e.t, .bool a.e.c, .int .i64 a.e.a] 41) := ⟨_, rfl⟩
  have hh1 : w1.heap[E]? = some (.cells #[.int .i64 a.err, .slice av n c, .int .i64 a.at_, .int .i64 a.by_, .int .i64 a.home, .int .i64 a.e.t, .bool a.e.c, .int .i64 a.e.a] 41 (0, 0)) := by rw [hw1, hE]; exact heap_alloc_new w _
  have hb1 : Below w.heap.size w w1 := by rw [hw1]; exact alloc_below _ _
  have hz1 : w1.heap.size = E + 1 := by rw [hw1, hE]; simp
  obtain ⟨w2, hw2⟩ : ∃ x, x = w1.alloc (.cells #[.slice none 0 0, .int .i64 0] 158) := ⟨_, rfl⟩
  have hb2 : Below w1.heap.size w1 w2 := by rw [hw2]; exact alloc_below _ _
  have hz2 : w2.heap.size = E + 1 + 1 := by rw [hw2, ← hz1]; simp
  have ht2 : Wt (· < E + 1) w2 (E + 1) [] := by
    refine ⟨.slice none 0 0, ?_, by omega, by simp [Value.ownBlock], fun k hk => by omega⟩
    rw [hw2, ← hz1]; exact wr_new w1
  have hh2 := (hb2.block E (by omega)).trans hh1
  have hB2 : Below E w w2 := by rw [hE]; exact hb1.trans (hb2.mono hb1.size)
  have z0 : w2.cell? ⟨E, 0, none⟩ = some (.int .i64 a.err) := by simp [World.cell?, hh2]
  have z1 : w2.cell? ⟨E, 1, none⟩ = some (.slice av n c) := by simp [World.cell?, hh2]
  have Hh2 := Lib.hid hh2
  have HB2 := Lib.hid hB2
  have Hs := Lib.hid hs
  have Hz1 := Lib.hid hz1
  have Hw1 := Lib.hid hw1.symm
  have Hw2 := Lib.hid hw2.symm
  have HE := Lib.hid hE
  have Hn := Lib.hid hn
  have hn20 : n ≤ 20 := by omega
  clear hn hh1 hb1 hw1 hw2 hb2 hh2 hB2 hs hz1 hz2 hE
  unfold ansRow
  go_enter Try.func50, Try.ntmps50
  go_upto_region 2 with fail
  rw [Hw1.out, Hw2.out, ← HE.out]
  clear Hw1 Hw2
  go_wp2_with fail
  refine (wt_Int (E + 1) [] a.err _ ht2 (by decide) r1).mono ?_
  rintro x w3 ⟨rfl, ht3, o3⟩
  rw [List.nil_append] at ht3
  have hl3 := coint_len a.err
  have y1 := cell_stays o3 (by omega) z1
  clear ht2 z0 z1
  go_wp2_with fail
  refine (wt_Num (E + 1) _ (BitVec.ofNat 64 n) _ ht3 (by omega)).mono ?_
  rintro x w4 ⟨rfl, ht4, o4⟩
  have hl4 := conum_len (BitVec.ofNat 64 n)
  have y2 := cell_stays o4 (by omega) y1
  have o24 : Only (fun k => ¬ k < E + 1) w2 w4 := o3.trans o4 fun _ _ h => h
  obtain ⟨N, hN⟩ : ∃ N, N = Bts.int a.err ++ Bts.num (BitVec.ofNat 64 n) := ⟨_, rfl⟩
  rw [← hN] at ht4
  have hNl : N.length ≤ 258 := by rw [hN, List.length_append]; omega
  have HN := Lib.hid hN
  clear hN ht3 y1 o3 o4 hl3 hl4
  go_wp2_with fail
  go_loopw [21] (fun i wr => ∃ j : Nat, j ≤ n ∧ i = .int .i64 j ∧ Wt (· < E + 1) wr (E + 1) (N ++ valsB (a.vals.take j)) ∧ Only (fun k => ¬ k < E + 1) w2 wr) (fun i _ => n - (intOf i).toNat)
  case atStart => exact ⟨0, Nat.zero_le _, rfl, by simpa [valsB] using ht4, o24⟩
  case round =>
    obtain ⟨j, hj, rfl, ht, ho⟩ := hrel
    clear ht4 o24 y2
    by_cases hlt : j < n
    · have hji : (j : Int) < (n : Int) := by omega
      have hjv : j < a.vals.length := by rw [← Hn.out]; exact hlt
      obtain ⟨b1, o1, rfl, hc1, q1, q2⟩ := SlI.at Hs.out j hjv
      have hb1 := cell_lt hc1
      have hc2 : wr.cell? ⟨b1, o1 + j, none⟩ = some (.int .i64 a.vals[j]) := cell_stays ho (by have := HE.out; omega) (cell_thru hc1 (by rw [← HE.out]; exact HB2.out))
      have hsn := valsB_snoc a.vals j hjv
      have hlen : (N ++ valsB (a.vals.take j)).length ≤ 10000 := by
        have h1 := valsB_len (a.vals.take j)
        rw [List.length_take] at h1
        have h2 : min j a.vals.length ≤ 20 := by omega
        rw [List.length_append]; omega
      obtain ⟨x, hx⟩ : ∃ x, x = a.vals[j] := ⟨_, rfl⟩
      rw [← hx] at hc2 q1 q2 hsn
      have Hsn := Lib.hid hsn
      clear hc1 hx hsn
      go_wp2_with fail
      refine (wt_Int (E + 1) _ x _ ht (by omega) ⟨q1, q2⟩).mono ?_
      rintro y w5 ⟨rfl, ht5, o5⟩
      rw [List.append_assoc, ← Hsn.out] at ht5
      go_wp2_with fail
      refine ⟨⟨j + 1, by omega, rfl, ht5, ho.trans o5 fun _ _ h => h⟩, ?_⟩
      simp [intOf]; omega
    · have hjn : j = n := by omega
      have hji : ¬ (j : Int) < (n : Int) := by omega
      rw [hjn, Hn.out, List.take_length] at ht
      have hhr := (ho.block E (Array.getElem?_eq_some_iff.1 Hh2.out).1 (by omega)).trans Hh2.out
      have y2 : wr.cell? ⟨E, 2, none⟩ = some (.int .i64 a.at_) := by simp [World.cell?, hhr]
      have y3 : wr.cell? ⟨E, 3, none⟩ = some (.int .i64 a.by_) := by simp [World.cell?, hhr]
      have y4 : wr.cell? ⟨E, 4, none⟩ = some (.int .i64 a.home) := by simp [World.cell?, hhr]
      have y5 : wr.cell? ⟨E, 5, none⟩ = some (.int .i64 a.e.t) := by simp [World.cell?, hhr]
      have y6 : wr.cell? ⟨E, 6, none⟩ = some (.bool a.e.c) := by simp [World.cell?, hhr]
      have y7 : wr.cell? ⟨E, 7, none⟩ = some (.int .i64 a.e.a) := by simp [World.cell?, hhr]
      have hlen : (N ++ valsB a.vals).length ≤ 10000 := by
        have h1 := valsB_len a.vals
        rw [List.length_append]; omega
      obtain ⟨M, hM⟩ : ∃ M, M = N ++ valsB a.vals := ⟨_, rfl⟩
      rw [← hM] at ht hlen
      have HM := Lib.hid hM
      have Ho := Lib.hid ho
      have l2 := coint_len a.at_
      have l3 := coint_len a.by_
      have l4 := coint_len a.home
      have Hji := Lib.hid hji
      clear hhr hM ho hjn
      go_upto_region 9 with fail
      go_wp2_with fail
      refine (wt_Int (E + 1) _ a.at_ _ ht (by omega) r2).mono ?_
      rintro x w5 ⟨rfl, ht5, o5⟩
      replace y3 := cell_stays o5 (by omega) y3
      replace y4 := cell_stays o5 (by omega) y4
      replace y5 := cell_stays o5 (by omega) y5
      replace y6 := cell_stays o5 (by omega) y6
      replace y7 := cell_stays o5 (by omega) y7
      clear y2 ht
      go_wp2_with fail
      refine (wt_Int (E + 1) _ a.by_ _ ht5 (by rw [List.length_append]; omega) r3).mono ?_
      rintro x w6 ⟨rfl, ht6, o6⟩
      replace y4 := cell_stays o6 (by omega) y4
      replace y5 := cell_stays o6 (by omega) y5
      replace y6 := cell_stays o6 (by omega) y6
      replace y7 := cell_stays o6 (by omega) y7
      clear y3 ht5
      go_wp2_with fail
      refine (wt_Int (E + 1) _ a.home _ ht6 (by rw [List.length_append, List.length_append]; omega) r4).mono ?_
      rintro x w7 ⟨rfl, ht7, o7⟩
      replace y5 := cell_stays o7 (by omega) y5
      replace y6 := cell_stays o7 (by omega) y6
      replace y7 := cell_stays o7 (by omega) y7
      clear y4 ht6
      go_wp2_with fail
      refine (co_end (E + 1) _ a.e _ ht7 (by rw [List.length_append, List.length_append, List.length_append]; omega) r5).mono ?_
      rintro x w8 ⟨rfl, ht8, o8⟩
      clear y5 y6 y7 ht7
      have le := endB_len a.e
      have hall : M ++ Bts.int a.at_ ++ Bts.int a.by_ ++ Bts.int a.home ++ endB a.e = ansB a := by
        rw [HM.out, HN.out, Hn.out]; unfold ansB; simp only [List.append_assoc]
      have hal : (ansB a).length ≤ 100000 := by
        rw [← hall]; simp only [List.length_append]; omega
      rw [hall] at ht8
      obtain ⟨v8, hw8, g1, g2, g3⟩ := ht8
      go_wp2_with fail
      refine (bits_Bytes w8.heap.size (E + 1) v8 _ w8 rfl hw8 (by omega)).mono ?_
      rintro x w9 ⟨v, rfl, hv, hb9⟩
      go_wp2_with fail
      go_ret
      have o28 := (((Ho.out.trans o5 fun _ _ h => h).trans o6 fun _ _ h => h).trans o7 fun _ _ h => h).trans o8 fun _ _ h => h
      have hz2 : E + 1 ≤ w2.heap.size := (Array.getElem?_eq_some_iff.1 Hh2.out).1
      have b28 : Below E w2 w8 := o28.below (by omega) fun k hk => by omega
      have b8 := HB2.out.trans b28
      have hz8 : E ≤ w8.heap.size := by have := o28.size; omega
      rw [← HE.out]
      exact ⟨v, rfl, hv.base hz8, b8.trans (hb9.mono hz8)⟩
end Go.Proofs.Ytmmgnbdngpkfcaa

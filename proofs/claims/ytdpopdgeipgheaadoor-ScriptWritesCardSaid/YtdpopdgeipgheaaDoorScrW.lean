
/-
  What the encoder of setups and scripts computes.
-/
import Derived.Test.YtdpopdgeipgheaaDoorScrD
import Derived.Test.YtdpopdgeipgheaaDoorScrS
import Derived.Test.YtdpopdgeipgheaaDoorBtsW
namespace Go.Proofs.YtdpopdgeipgheaaDoor
open Go.RowKit
set_option linter.unusedVariables false

theorem size_conf : (Tryd.prog.info? 26).map (·.size) = some 16 := by kernel_rfl
namespace Sc
theorem cf_get (c : Conf) (j : Nat) (h : j < c.1.length) : c.1[j] = cf c j := by
  unfold cf; rw [List.getD_eq_getElem?_getD, List.getElem?_eq_getElem h]; rfl
end Sc

set_option maxRecDepth 100000 in
set_option maxHeartbeats 6400000 in
theorem script_Encode (B : Nat) (c : Sc.Conf) (aL : Option Addr) (nL cL : Nat) (L : List Sc.Step) (w : World) (hB : w.heap.size = B) (hbd : Bounds w) (hc : c.1.length = 15) (hL : RS EStp w aL nL L) (hLc : nL ≤ cL) (hLm : cL ≤ maxLen) (hT : Sc.encErr (c, L) = 0 → (Sc.allBits (c, L)).length ≤ 1000000000) :
    Calls Tryd.prog 9 #[.agg (confCells c), .slice aL nL cL] w fun e w' => ∃ v, e = .returned (.tuple #[v, .int .i64 (Sc.encErr (c, L))]) ∧ Own EU8 5 B w' v (Sc.encOut (c, L)) ∧ Below B w w' := by
  obtain ⟨rfl, hLs⟩ := hL
  obtain ⟨er, her⟩ : ∃ x, x = Sc.encErr (c, L) := ⟨_, rfl⟩
  obtain ⟨out, hout⟩ : ∃ x, x = Sc.encOut (c, L) := ⟨_, rfl⟩
  have hfail : ∀ e : Int, er = e → e ≠ 0 → out = [] := fun e h h0 => by rw [hout]; unfold Sc.encOut; rw [if_neg (by rw [← her, h]; exact h0)]
  rw [← her] at hT
  rw [← her, ← hout]
  have Her := Lib.hid her
  have Hout := Lib.hid hout
  have HB := Lib.hid hB
  have HL := Lib.hid hLs
  have HT := Lib.hid hT
  have Hfail := Lib.hid hfail
  have hgB := hbd.lt
  obtain ⟨w1, hw1⟩ : ∃ x, x = w.alloc (.cells (confCells c) 26) := ⟨_, rfl⟩
  have hh1 : w1.heap[B]? = some (.cells (confCells c) 26 (0, 0)) := by subst hw1; subst hB; exact heap_alloc_new w _
  have hb1 : Below B w w1 := by subst hw1; subst hB; exact (Below.refl _ _).alloc (Nat.le_refl _) _
  have hn1 : w1.heap.size = B + 1 := by subst hw1; subst hB; simp
  have hbd1 : Bounds w1 := hbd.below hb1 (by rw [← hB]; exact hgB)
  have Hh1 := Lib.hid hh1
  have Hb1 := Lib.hid hb1
  have Hbd1 := Lib.hid hbd1
  have Hn1 := Lib.hid hn1
  have Hc := Lib.hid hc
  clear her hout hLs hfail hT hh1 hb1 hbd1 hn1 hbd hgB hc
  unfold confCells at hw1 ⊢
  go_enter Tryd.func9, Tryd.ntmps9
  go_upto_region 1 with fail
  rw [← hw1]
  clear hw1
  go_wp2_with (refine wpList_loadRow rfl _ _ rfl B rfl (confCells c) _ (0, 0) _ Hh1.out Tryd.underlying26 rfl size_conf ?_)
  refine (script_Check c w1 Hbd1.out).mono ?_
  rintro e w2 ⟨rfl, hb2⟩
  rw [Hn1.out] at hb2
  have hh2 : w2.heap[B]? = some (.cells (confCells c) 26 (0, 0)) := by rw [hb2.block B (by omega)]; exact Hh1.out
  have hbw2 : Below B w w2 := Hb1.out.trans (hb2.mono (by omega))
  have hs2 : B + 1 ≤ w2.heap.size := by have := hb2.size; rw [Hn1.out] at this; exact this
  have Hh2 := Lib.hid hh2
  have Hbw2 := Lib.hid hbw2
  have HB := Lib.hid hB
  clear hb2 hh2 hbw2 hB
  by_cases hk : Sc.check c = 0
  case neg =>
    have he : er = Sc.check c := by rw [Her.out]; unfold Sc.encErr; rw [if_neg hk]
    obtain ⟨z, hz⟩ : ∃ z, z = Sc.check c := ⟨_, rfl⟩
    rw [← hz] at he hk ⊢
    have ho := Hfail.out z he hk
    subst he
    subst ho
    have hz0 : (er != 0) = true := by simpa using hk
    clear hz hk
    go_wp2_with fail
    refine bodyPost_ret (v := .tuple #[.slice none 0 0, .int .i64 er]) (by simp [results, Tryd.results9, go_sem]) rfl ?_
    exact ⟨_, rfl, Own.nil _ _ _ _, Hbw2.out⟩
  rw [hk]
  have her2 : er = if 20000 < L.length then 4 else 0 := by rw [Her.out]; unfold Sc.encErr; rw [if_pos hk]
  have Her2 := Lib.hid her2
  clear hk her2
  by_cases h2 : 20000 < L.length
  · have h2' : 20000 < (L.length : Int) := by omega
    have he : er = 4 := by rw [Her2.out, if_pos h2]
    have ho := Hfail.out 4 he (by decide)
    subst he
    subst ho
    clear h2
    go_wp2_with fail
    refine bodyPost_ret (v := .tuple #[.slice none 0 0, .int .i64 4]) (by simp [results, Tryd.results9, go_sem]) rfl ?_
    exact ⟨_, rfl, Own.nil _ _ _ _, Hbw2.out⟩
  have h2' : ¬ (20000 < (L.length : Int)) := by omega
  have he : er = 0 := by rw [Her2.out, if_neg h2]
  have hT := HT.out he
  have ho : out = Bts.pack (Sc.allBits (c, L)) := by rw [Hout.out]; unfold Sc.encOut; rw [if_pos (by rw [← Her.out]; exact he)]
  subst he
  have Ho := Lib.hid ho
  have HT2 := Lib.hid hT
  clear ho hT h2
  obtain ⟨g, hg⟩ : ∃ g, w2.heap.size = g := ⟨_, rfl⟩
  obtain ⟨w3, hw3⟩ : ∃ x, x = w2.alloc (.cells #[.slice none 0 0, .int .i64 0] 61) := ⟨_, rfl⟩
  have hb3 : Below g w2 w3 := by subst hw3; subst hg; exact (Below.refl _ _).alloc (Nat.le_refl _) _
  have ha3 : WrAt w3 g (.slice none 0 0) [] := by subst hw3; subst hg; exact wr_new w2
  have hn3 : w3.heap.size = g + 1 := by subst hw3; subst hg; simp
  rw [hg] at hs2
  have Hb3 := Lib.hid hb3
  have Ha3 := Lib.hid ha3
  have hex3 := hw3.symm
  clear hb3 ha3 hw3
  go_upto_region 7 with fail
  clear hex3 hg
  go_wp2_with fail
  refine (script_fields B _).mono ?_
  rintro e w4 ⟨rfl, hh4, hb4⟩
  rw [hn3] at hh4 hb4 ⊢
  have ha4 : WrAt w4 g (.slice none 0 0) [] := Ha3.out.keep (by rw [hn3]; exact hb4)
  have hbw4 : Below B w w4 := (Hbw2.out.trans (Hb3.out.mono (by omega))).trans (hb4.mono (by omega))
  have hn4 : g + 2 ≤ w4.heap.size := by
    have := (Array.getElem?_eq_some_iff.1 hh4).1; omega
  have hp4 : ∀ j, j < 15 → w4.cell? ⟨g + 1, j, none⟩ = some (.pointer (some ⟨B, fo j, none⟩)) := fun j hj => by simp [World.cell?, hh4, scPtrs_get _ _ hj]
  have hhB4 : w4.heap[B]? = some (.cells (confCells c) 26 (0, 0)) := by rw [hb4.block B (by omega), Hb3.out.block B (by omega)]; exact Hh2.out
  have hq4 : ∀ j, j < 15 → w4.cell? ⟨B, fo j, none⟩ = some (.int .i64 (Sc.cf c j)) := fun j hj => by simp [World.cell?, hhB4, confCells_num c j hj]
  have hsd : w4.cell? ⟨B, 9, none⟩ = some (.int .u64 (bv c.2)) := by simp [World.cell?, hhB4, confCells]
  have HP4 := Lib.hid hp4
  have HQ4 := Lib.hid hq4
  have Hsd := Lib.hid hsd
  have Hbw4 := Lib.hid hbw4
  clear hh4 hb4 hp4 hhB4 hq4 hsd hbw4 hn3
  go_wp2_with fail
  go_loopw [26] (fun i wr => ∃ (j : Nat) (v : Value), j ≤ 15 ∧ i = .int .i64 j ∧ WrAt wr g v (Sc.numsBits (c.1.take j)) ∧ RowKit.Hid (Wrote g (.slice none 0 0) w4 v wr)) (fun i _ => 15 - (intOf i).toNat)
  case atStart => exact ⟨0, _, Nat.zero_le _, rfl, by simpa [Sc.numsBits] using ha4, Lib.hid (Wrote.refl _ _ _)⟩
  case round =>
    obtain ⟨j, v, hj, rfl, ha, Hw⟩ := hrel
    clear ha4
    by_cases hlt : j < 15
    · have hji : (j : Int) < 15 := by omega
      have pj := Hw.out.cell (HP4.out j hlt) (by omega)
      have qj := Hw.out.cell (HQ4.out j hlt) (by omega)
      have hsn := Sc.numsBits_snoc c.1 j (by rw [Hc.out]; exact hlt)
      rw [Sc.cf_get] at hsn
      have hlen : (Sc.numsBits (c.1.take j)).length ≤ 2000 := by
        have := Sc.numsBits_len (c.1.take j)
        rw [List.length_take] at this
        omega
      obtain ⟨y, hy⟩ : ∃ y, y = Sc.cf c j := ⟨_, rfl⟩
      rw [← hy] at qj hsn
      have Hsn := Lib.hid hsn
      clear hsn hy
      go_wp2_with fail
      refine (bits_Num g v _ (BitVec.ofInt 64 y) _ ha (by omega)).mono ?_
      rintro e w5 ⟨rfl, v5, ha5, ht5⟩
      go_wp2_with fail
      go_roundw
      case rel =>
        refine ⟨j + 1, v5, by omega, by go_num, ?_, Lib.hid (Hw.out.trans ht5)⟩
        rw [Hsn.out]; exact ha5
      case measure => simp [intOf]; omega
    · have hji : ¬ ((j : Int) < 15) := by omega
      have htk : c.1.take j = c.1 := List.take_of_length_le (by rw [Hc.out]; omega)
      rw [htk] at ha
      have hlN : (Sc.numsBits c.1).length ≤ 2000 := by
        have := Sc.numsBits_len c.1
        rw [Hc.out] at this; omega
      have hsd := Hw.out.cell Hsd.out (by omega)
      obtain ⟨N, hN⟩ : ∃ N, N = Sc.numsBits c.1 := ⟨_, rfl⟩
      rw [← hN] at ha hlN
      have HN := Lib.hid hN
      clear htk hN
      go_upto_region 12 with fail
      go_wp2_with fail
      refine (bits_Put g v _ c.2 64 _ ha (by decide) (by omega)).mono ?_
      rintro e w5 ⟨rfl, v5, ha5, ht5⟩
      have hpl : (Bts.put c.2 64).length = 64 := by unfold Bts.put; rw [Bts.low_len]; rfl
      have Hw5 := Lib.hid (Hw.out.trans ht5)
      clear ht5 ha hsd
      go_wp2_with fail
      refine (bits_Num g v5 _ (BitVec.ofInt 64 L.length) _ ha5 (by rw [List.length_append]; omega)).mono ?_
      rintro e w6 ⟨rfl, v6, ha6, ht6⟩
      have Hw6 := Lib.hid (Hw5.out.trans ht6)
      obtain ⟨P, hP⟩ : ∃ P, P = N ++ Bts.put c.2 64 ++ Bts.num (BitVec.ofInt 64 L.length) := ⟨_, rfl⟩
      rw [← hP] at ha6
      have hall : Sc.allBits (c, L) = P ++ Sc.stepsBits L := by
        rw [hP, HN.out]
        simp only [Sc.allBits, Sc.confBits, List.append_assoc]
        rfl
      have hT := HT2.out
      rw [hall, List.length_append] at hT
      have Hall := Lib.hid hall
      have HT3 := Lib.hid hT
      clear ht6 ha5 hP hall hT hpl hlN
      go_wp2_with fail
      go_loopw [48] (fun i wr => ∃ (j : Nat) (v : Value), j ≤ L.length ∧ i = .int .i64 j ∧ WrAt wr g v (P ++ Sc.stepsBits (L.take j)) ∧ RowKit.Hid (Wrote g (.slice none 0 0) w4 v wr)) (fun i _ => L.length - (intOf i).toNat)
      case atStart => exact ⟨0, v6, Nat.zero_le _, rfl, by simpa [Sc.stepsBits] using ha6, Hw6⟩
      case round =>
        obtain ⟨j, v, hj, rfl, ha, Hw⟩ := hrel
        clear ha6
        have hbw : Below B w wr := Hbw4.out.trans (Hw.out.below (by omega) (by omega) (by simp [Value.ownBlock]))
        by_cases hlt : j < L.length
        · have hji : (j : Int) < (L.length : Int) := by omega
          have hlen : (P ++ Sc.stepsBits (L.take j)).length ≤ 1000000000 := by
            have h1 := Sc.flat_len_le Sc.stepBits L j
            have h3 := HT3.out
            unfold Sc.stepsBits at h3 ⊢
            rw [List.length_append]; omega
          have hsn := Sc.stepsBits_snoc L j hlt
          have hlen2 : (P ++ Sc.stepsBits (L.take j) ++ Sc.stepBits L[j]).length ≤ 1000000000 := by
            have h1 := Sc.flat_len_le Sc.stepBits L (j + 1)
            have h3 := HT3.out
            have h4 := congrArg List.length hsn
            rw [List.length_append] at h4
            unfold Sc.stepsBits at h3 h4 ⊢
            rw [List.length_append, List.length_append]; omega
          obtain ⟨b1, o1, aK, cK, rfl, _, p0, p1, p2, p3, i0, i1, i2, hcK, hmK, hsK⟩ := sl_stp HL.out j hlt
          have kw : ∀ {o : Nat} {u : Value}, w.cell? ⟨b1, o, none⟩ = some u → wr.cell? ⟨b1, o, none⟩ = some u := fun h => cell_thru h (by rw [HB.out]; exact hbw)
          have q0 := kw p0
          have q1 := kw p1
          have q2 := kw p2
          have q3 := kw p3
          clear kw p0 p1 p2 p3
          obtain ⟨x, hx⟩ : ∃ x, x = L[j] := ⟨_, rfl⟩
          rw [← hx] at q0 q1 q2 q3 i0 i1 i2 hcK hsK hsn hlen2
          clear hx
          obtain ⟨x1, x2, x3, x4⟩ := x
          dsimp only at q0 q1 q2 q3 i0 i1 i2 hcK hsK
          obtain ⟨S, hS⟩ : ∃ S, S = P ++ Sc.stepsBits (L.take j) := ⟨_, rfl⟩
          have hsn2 : P ++ Sc.stepsBits (L.take (j + 1)) = S ++ Sc.stepBits (x1, x2, x3, x4) := by rw [hsn, hS, List.append_assoc]
          rw [← hS] at ha hlen hlen2
          obtain ⟨w7, hw7⟩ : ∃ x, x = wr.alloc (.cells #[.int .i64 x1, .int .i64 x2, .int .i64 x3, .slice aK x4.length cK] 58) := ⟨_, rfl⟩
          have hb7 : Below wr.heap.size wr w7 := by subst hw7; exact (Below.refl _ _).alloc (Nat.le_refl _) _
          have hh7 : w7.heap[wr.heap.size]? = some (.cells #[.int .i64 x1, .int .i64 x2, .int .i64 x3, .slice aK x4.length cK] 58 (0, 0)) := by subst hw7; exact heap_alloc_new wr _
          obtain ⟨s0, hs0⟩ : ∃ s, s = wr.heap.size := ⟨_, rfl⟩
          rw [← hs0] at hh7
          have hvs : v.ownBlock ≠ some s0 := fun h => by have := (ha.own s0 h).2; omega
          have hgs : g < s0 := by rw [hs0]; exact ha.lt
          have hs7 : s0 < w7.heap.size := (Array.getElem?_eq_some_iff.1 hh7).1
          have ha7 := ha.keep hb7
          have z0 : w7.cell? ⟨s0, 0, none⟩ = some (.int .i64 x1) := by simp [World.cell?, hh7]
          have Hw7 := Lib.hid (Hw.out.then hb7)
          have kb : ∀ (v' : Value) (w' : World), Wrote g v w7 v' w' → w'.heap[s0]? = some (.cells #[.int .i64 x1, .int .i64 x2, .int .i64 x3, .slice aK x4.length cK] 58 (0, 0)) := fun v' w' h => by
            rw [h.blk s0 hs7 (by omega) hvs]; exact hh7
          have Kb := Lib.hid kb
          have HsK := Lib.hid hsK
          have Hsn2 := Lib.hid hsn2
          have Hlen2 := Lib.hid hlen2
          have l1 := Sc.int_len x1
          have l2 := Sc.int_len x2
          have l3 := Sc.int_len x3
          have l4 := Sc.num_le (BitVec.ofInt 64 x4.length)
          clear kb hh7 hvs hsn hsn2 hlen2 hS hsK ha hbw
          go_upto_region 17 with fail
          rw [← hw7]
          rw [← hs0]
          clear hw7 hs0 hb7 q0 q1 q2 q3
          go_wp2_with fail
          refine (bits_Int g v S x1 _ ha7 (by omega) i0).mono ?_
          rintro e w8 ⟨rfl, v8, ha8, ht8⟩
          have hr8 := Kb.out _ _ ht8
          have z1 : w8.cell? ⟨s0, 1, none⟩ = some (.int .i64 x2) := by simp [World.cell?, hr8]
          have Ht8 := Lib.hid ht8
          clear z0 ha7 ht8 hr8
          go_wp2_with fail
          refine (bits_Int g v8 _ x2 _ ha8 (by rw [List.length_append]; omega) i1).mono ?_
          rintro e w9 ⟨rfl, v9, ha9, ht9⟩
          have ht9 := Ht8.out.trans ht9
          have hr9 := Kb.out _ _ ht9
          have z2 : w9.cell? ⟨s0, 2, none⟩ = some (.int .i64 x3) := by simp [World.cell?, hr9]
          have Ht9 := Lib.hid ht9
          clear z1 ha8 ht9 hr9 Ht8
          go_wp2_with fail
          refine (bits_Int g v9 _ x3 _ ha9 (by rw [List.length_append, List.length_append]; omega) i2).mono ?_
          rintro e w10 ⟨rfl, v10, ha10, ht10⟩
          have ht10 := Ht9.out.trans ht10
          have hr10 := Kb.out _ _ ht10
          have z3 : w10.cell? ⟨s0, 3, none⟩ = some (.slice aK x4.length cK) := by simp [World.cell?, hr10]
          have Ht10 := Lib.hid ht10
          clear z2 ha9 ht10 hr10 Ht9
          go_wp2_with fail
          refine (bits_Num g v10 _ (BitVec.ofInt 64 x4.length) _ ha10 (by rw [List.length_append, List.length_append, List.length_append]; omega)).mono ?_
          rintro e w11 ⟨rfl, v11, ha11, ht11⟩
          have ht11 := Ht10.out.trans ht11
          have hr11 := Kb.out _ _ ht11
          have z3 : w11.cell? ⟨s0, 3, none⟩ = some (.slice aK x4.length cK) := by simp [World.cell?, hr11]
          have Hw11 := Lib.hid (Hw7.out.trans ht11)
          clear ha10 ht11 hr11 Ht10
          obtain ⟨S4, hS4⟩ : ∃ S4, S4 = S ++ Bts.int x1 ++ Bts.int x2 ++ Bts.int x3 ++ Bts.num (BitVec.ofInt 64 x4.length) := ⟨_, rfl⟩
          rw [← hS4] at ha11
          have hst : S ++ Sc.stepBits (x1, x2, x3, x4) = S4 ++ Sc.keepsBits x4 := by
            rw [hS4]; simp only [Sc.stepBits, List.append_assoc]
          have hlen4 := Hlen2.out
          rw [hst, List.length_append] at hlen4
          have Hst := Lib.hid hst
          have Hlen4 := Lib.hid hlen4
          clear hS4 hst hlen4 l1 l2 l3 l4 hlen
          go_wp2_with fail
          have hg11 : g < w11.heap.size := ha11.lt
          have hx4 : x4.length ≤ 9223372036854775807 := by unfold maxLen at hmK; omega
          go_loopw [73] (fun i wr' => ∃ (q : Nat) (v : Value), q ≤ x4.length ∧ i = .int .i64 q ∧ WrAt wr' g v (S4 ++ Sc.keepsBits (x4.take q)) ∧ RowKit.Hid (Wrote g (.slice none 0 0) w4 v wr')) (fun i _ => x4.length - (intOf i).toNat)
          case atStart => exact ⟨0, v11, Nat.zero_le _, rfl, by simpa [Sc.keepsBits] using ha11, Hw11⟩
          case round =>
            obtain ⟨q, v', hq, rfl, ha', Hw'⟩ := hrel
            clear ha11 z3
            have hbw' : Below B w wr := Hbw4.out.trans (Hw'.out.below (by omega) (by omega) (by simp [Value.ownBlock]))
            by_cases hqt : q < x4.length
            · have hqi : (q : Int) < (x4.length : Int) := by omega
              have hlen5 : (S4 ++ Sc.keepsBits (x4.take q)).length ≤ 1000000000 := by
                have h1 := Sc.flat_len_le Bts.int x4 q
                have h3 := Hlen4.out
                unfold Sc.keepsBits at h3 ⊢
                rw [List.length_append]; omega
              have hks := Sc.keepsBits_snoc x4 q hqt
              obtain ⟨b2, o2, rfl, _, y0, yi⟩ := sl_i HsK.out q hqt
              have y1 := cell_thru y0 (by rw [HB.out]; exact hbw')
              obtain ⟨y, hy⟩ : ∃ y, y = x4[q] := ⟨_, rfl⟩
              rw [← hy] at y1 yi hks
              have Hks := Lib.hid hks
              clear hks hy y0 hbw'
              go_wp2_with fail
              refine (bits_Int g v' _ y _ ha' (by omega) yi).mono ?_
              rintro e w12 ⟨rfl, v12, ha12, ht12⟩
              go_wp2_with fail
              go_roundw
              case rel =>
                refine ⟨q + 1, v12, by omega, by go_num, ?_, Lib.hid (Hw'.out.trans ht12)⟩
                rw [Hks.out, ← List.append_assoc]; exact ha12
              case measure => simp [intOf]; omega
            · have hqi : ¬ ((q : Int) < (x4.length : Int)) := by omega
              have htk : x4.take q = x4 := List.take_of_length_le (by omega)
              rw [htk, ← Hst.out, ← Hsn2.out] at ha'
              clear htk hbw'
              go_wp2_with fail
              go_roundw
              case rel => exact ⟨j + 1, v', by omega, by go_num, ha', Hw'⟩
              case measure => simp [intOf]; omega
        · have hji : ¬ ((j : Int) < (L.length : Int)) := by omega
          have htk : L.take j = L := List.take_of_length_le (by omega)
          rw [htk, ← Hall.out] at ha
          have hT := HT2.out
          clear htk
          go_wp2_with fail
          refine (bits_Bytes wr.heap.size g v _ _ (by rfl) ha (by omega)).mono ?_
          rintro e w8 ⟨v8, rfl, ho8, hb8⟩
          have hBr : B ≤ wr.heap.size := by have := hbw.size; rw [HB.out] at this; exact this
          go_wp2_with fail
          refine bodyPost_ret (v := .tuple #[v8, .int .i64 0]) (by simp [results, Tryd.results9, go_sem]) rfl ?_
          exact ⟨_, rfl, by rw [Ho.out]; exact ho8.base hBr, hbw.trans (hb8.mono hBr)⟩
end Go.Proofs.YtdpopdgeipgheaaDoor

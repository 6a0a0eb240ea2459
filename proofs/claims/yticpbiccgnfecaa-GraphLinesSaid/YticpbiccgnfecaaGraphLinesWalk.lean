
/-
  The walk of the law 'GraphLines'.
-/
import Derived.Test.YticpbiccgnfecaaGraphEitherWalk
import Derived.Test.YticpbiccgnfecaaGraphMoreWalk
import Derived.Test.YticpbiccgnfecaaGraphTurnedWalk
namespace Go.Proofs.Yticpbiccgnfecaa
open Go.RowKit
set_option linter.unusedVariables false

namespace Gr
def line (k : Nat) : Arcs := (List.range k).map fun i : Nat => ((i : Int), (i : Int) + 1)
theorem line_len (k : Nat) : (line k).length = k := by simp [line]
theorem line_succ (k : Nat) : line (k + 1) = line k ++ [((k : Int), (k : Int) + 1)] := by simp [line, List.range_succ]
theorem line_mem (k : Nat) (x y : Int) : (x, y) ∈ line k ↔ ∃ i : Nat, i < k ∧ x = i ∧ y = (i : Int) + 1 := by
  simp only [line, List.mem_map, List.mem_range, Prod.mk.injEq]
  constructor
  · rintro ⟨i, hi, rfl, rfl⟩; exact ⟨i, hi, rfl, rfl⟩
  · rintro ⟨i, hi, rfl, rfl⟩; exact ⟨i, hi, rfl, rfl⟩
theorem T_line {n u v : Nat} : T n (line (n - 1)) u v = true ↔ v = u + 1 ∧ v < n := by
  rw [T_iff, line_mem]
  constructor
  · rintro ⟨h1, h2, i, hi, e1, e2⟩
    omega
  · rintro ⟨rfl, h⟩
    exact ⟨by omega, h, u, by omega, rfl, by omega⟩
theorem T_ring {n u v : Nat} : T n (line (n - 1) ++ [((n : Int) - 1, 0)]) u v = true ↔ u < n ∧ v < n ∧ v = if u + 1 = n then 0 else u + 1 := by
  rw [T_iff, List.mem_append, line_mem, List.mem_singleton, Prod.mk.injEq]
  constructor
  · rintro ⟨h1, h2, ⟨i, hi, e1, e2⟩ | ⟨e1, e2⟩⟩
    · refine ⟨h1, h2, ?_⟩
      rw [if_neg (by omega)]; omega
    · refine ⟨h1, h2, ?_⟩
      rw [if_pos (by omega)]; omega
  · rintro ⟨h1, h2, h3⟩
    refine ⟨h1, h2, ?_⟩
    by_cases e : u + 1 = n
    · rw [if_pos e] at h3
      exact .inr ⟨by omega, by omega⟩
    · rw [if_neg e] at h3
      exact .inl ⟨u, by omega, rfl, by omega⟩
theorem topo_line {n : Nat} : ∀ {k : Nat}, k ≤ n → topo n (T n (line (n - 1))) k (List.range (n - k)) = some (List.range n)
  | 0, _ => rfl
  | k + 1, h => by
    have hp : pick n (T n (line (n - 1))) (List.range (n - (k + 1))) = some (n - (k + 1)) := by
      refine pick_mk (by omega) ?_ fun u hu => ?_
      · simp only [freeB, Bool.and_eq_true, Bool.not_eq_true', List.contains_eq_mem, decide_eq_false_iff_not, List.mem_range, List.all_eq_true, Bool.or_eq_true, decide_eq_true_eq]
        refine ⟨by omega, fun u hu => ?_⟩
        by_cases hr : T n (line (n - 1)) u (n - (k + 1)) = true
        · have := T_line.1 hr
          exact .inr (by omega)
        · exact .inl (by simpa using hr)
      · simp only [freeB, Bool.and_eq_false_iff, Bool.not_eq_false', List.contains_eq_mem, decide_eq_true_eq, List.mem_range]
        exact .inl hu
    rw [topo_some hp, show List.range (n - (k + 1)) ++ [n - (k + 1)] = List.range (n - k) by rw [← List.range_succ]; congr 1; omega]
    exact topo_line (by omega)
theorem topo_line' (n : Nat) : topo n (T n (line (n - 1))) n [] = some (List.range n) := by
  have := topo_line (n := n) (k := n) (Nat.le_refl n)
  rwa [Nat.sub_self] at this
theorem cyc_line {n : Nat} {c : List Nat} (h : CycS (T n (line (n - 1))) c) : c = [] := by
  have he := either (T_bd n _) h
  rw [topo_line'] at he
  simp at he
  exact he
theorem way_line {n i j : Nat} (hj : j < n) : wayB (T n (line (n - 1))) n i j = decide (i < j) := by
  rw [Bool.eq_iff_iff, wayB_iff, decide_eq_true_eq]
  constructor
  · intro h
    induction h with
    | one h => have := T_line.1 h; omega
    | step h _ _ ih => have := T_line.1 h; have := ih hj; omega
  · intro h
    obtain ⟨d, rfl⟩ : ∃ d, j = i + 1 + d := ⟨j - i - 1, by omega⟩
    clear h
    induction d generalizing i with
    | zero => exact .one (T_line.2 ⟨rfl, hj⟩)
    | succ d ih => exact .step (T_line.2 ⟨rfl, by omega⟩) (by omega) (by have := ih (i := i + 1) (by omega); rwa [show i + 1 + 1 + d = i + 1 + (d + 1) by omega] at this)
def ring (n : Nat) : Rel := T n (line (n - 1) ++ [((n : Int) - 1, 0)])
theorem ring_lk {n : Nat} : ∀ {k a : Nat}, a + k = n → Lk (ring n) (List.range' a k) 0
  | 0, _, _ => trivial
  | k + 1, a, h => by
    rw [List.range'_succ]
    refine ⟨T_ring.2 ?_, ring_lk (by omega)⟩
    cases k with
    | zero => exact ⟨by omega, by simp; omega, by rw [if_pos (by omega)]; rfl⟩
    | succ k => exact ⟨by omega, by simp [List.range'_succ]; omega, by rw [if_neg (by omega)]; simp [List.range'_succ]⟩
theorem ring_walk {n : Nat} : ∀ {l : List Nat} {g : Nat}, g < n → Lk (ring n) l g → g = (l.headD g + l.length) % n ∧ l.headD g < n
  | [], g, hg, _ => by
    simp [Nat.mod_eq_of_lt hg, hg]
  | u :: r, g, hg, h => by
    obtain ⟨h1, h2, h3⟩ := T_ring.1 h.1
    obtain ⟨e, _⟩ := ring_walk hg h.2
    refine ⟨?_, h1⟩
    simp only [List.headD_cons, List.length_cons]
    by_cases hu : u + 1 = n
    · rw [if_pos hu] at h3
      rw [h3] at e
      rw [e, show u + (r.length + 1) = r.length + n by omega, Nat.add_mod_right, Nat.zero_add]
    · rw [if_neg hu] at h3
      rw [h3] at e
      rw [e, show u + (r.length + 1) = u + 1 + r.length by omega]
theorem ring_long {n : Nat} {d : List Nat} (h : Clo (ring n) d) : n ≤ d.length := by
  have hp := h.pos
  cases d with
  | nil => simp at hp
  | cons u r =>
    have hu : u < n := h.bd (T_bd n _) u (List.mem_cons_self ..)
    obtain ⟨e, _⟩ := ring_walk hu h.2
    simp only [List.headD_cons] at e
    by_cases hl : n ≤ (u :: r).length
    · exact hl
    · by_cases h2 : u + (u :: r).length < n
      · rw [Nat.mod_eq_of_lt h2] at e; omega
      · rw [Nat.mod_eq_sub_mod (by omega), Nat.mod_eq_of_lt (by omega)] at e; omega
theorem cyc_ring {n : Nat} (hn : 0 < n) {c : List Nat} (h : CycS (ring n) c) : c = List.range n := by
  refine h.uniq (.inr ⟨⟨by simp; omega, ?_⟩, fun d hd => by rw [List.length_range]; exact ring_long hd, fun i v hi hv => ?_⟩)
  · have := ring_lk (n := n) (k := n) (a := 0) (by omega)
    rw [← List.range_eq_range'] at this
    obtain ⟨m, rfl⟩ : ∃ m, n = m + 1 := ⟨n - 1, by omega⟩
    rw [show (List.range (m + 1)).headD 0 = 0 by simp [List.range_succ_eq_map]]
    exact this
  · rw [List.length_range] at hi ⊢
    rintro ⟨d, hd, hl, r, hr⟩
    have hnd := nodup_of_least hd fun e he => by rw [hl]; exact ring_long he
    have hv' : v < i := by
      simpa [List.getD_eq_getElem?_getD, List.getElem?_range hi] using hv
    rw [List.take_range, Nat.min_eq_left (by omega)] at hr
    rw [← hr, List.append_assoc] at hnd
    have := (List.nodup_append.1 hnd).2.2 v (List.mem_range.2 hv') v (by simp)
    exact this rfl
theorem topo_ring {n : Nat} (hn : 0 < n) {c : List Nat} (h : CycS (ring n) c) : (topo n (ring n) n []).isSome = false := by
  rw [show (topo n (ring n) n []).isSome = _ from either (T_bd n _) h, cyc_ring hn h, List.length_range]
  simp [hn]
end Gr
theorem and63 (n : Int) : bits .and .i64 n 63 = n % 64 := by
  have h : bits .and .i64 n 63 = IntKind.i64.wrap ((BitVec.ofInt 64 n &&& BitVec.ofInt 64 63).toNat : Int) := rfl
  rw [h]
  have : (BitVec.ofInt 64 n &&& BitVec.ofInt 64 63).toNat = (BitVec.ofInt 64 n).toNat % 64 := by
    rw [BitVec.toNat_and]
    exact Nat.and_two_pow_sub_one_eq_mod _ 6
  rw [this, BitVec.toNat_ofInt, IntKind.wrap_i64]
  omega
theorem and1023 (n : Int) : bits .and .i64 n 1023 = n % 1024 := by
  have h : bits .and .i64 n 1023 = IntKind.i64.wrap ((BitVec.ofInt 64 n &&& BitVec.ofInt 64 1023).toNat : Int) := rfl
  rw [h]
  have : (BitVec.ofInt 64 n &&& BitVec.ofInt 64 1023).toNat = (BitVec.ofInt 64 n).toNat % 1024 := by
    rw [BitVec.toNat_and]
    exact Nat.and_two_pow_sub_one_eq_mod _ 10
  rw [this, BitVec.toNat_ofInt, IntKind.wrap_i64]
  omega
attribute [go_sem] and63 and1023

set_option maxRecDepth 8192 in
set_option maxHeartbeats 6400000 in
theorem law_GraphLines (n from' : Int) (W : World) (hn : -9223372036854775808 ≤ n ∧ n ≤ 9223372036854775807) (hf : -9223372036854775808 ≤ from' ∧ from' ≤ 9223372036854775807) :
    Calls Try.prog 10 #[.int .i64 n, .int .i64 from'] W fun e W' => e = .returned (.bool true) ∧ Below W.heap.size W W' := by
  obtain ⟨n0, n1⟩ := hn
  obtain ⟨f0, f1⟩ := hf
  go_enter Try.func10, Try.ntmps10
  go_wp2_with fail
  refine (law07_found _ _ rfl).mono ?_
  rintro e w3 ⟨rfl, hb3⟩
  have Hb03 := Lib.hid hb3
  clear hb3
  go_wp2_with fail
  refine (law07_ordered _ _ rfl).mono ?_
  rintro e w4 ⟨rfl, hb4⟩
  have Hb04 := Lib.hid (Hb03.out.trans (hb4.mono Hb03.out.size))
  clear hb4
  obtain ⟨N, hN⟩ : ∃ N : Nat, N = (1 + n % 64).toNat := ⟨_, rfl⟩
  have hN1 : 1 + n % 64 = (N : Int) := by omega
  have hN2 : 1 ≤ N := by omega
  have hN3 : N ≤ 64 := by omega
  have hN4 : (N : Int) ≤ 64 := by omega
  have hN5 : 1 ≤ (N : Int) := by omega
  have HN6 : RowKit.Hid (min (max (N : Int) 0) 400 = (N : Int)) := Lib.hid (by omega)
  have hb5 : Below w4.heap.size w4 (w4.alloc (.cells #[] 27)) := alloc_below w4 _
  have ho5 := own_empty EArc 27 w4 (by decide)
  obtain ⟨w5, hw5⟩ : ∃ x, x = w4.alloc (.cells #[] 27) := ⟨_, rfl⟩
  have hex5 := hw5.symm
  rw [← hw5] at hb5 ho5
  obtain ⟨B4, hB4⟩ : ∃ x, x = w4.heap.size := ⟨_, rfl⟩
  have HB4 := Lib.hid hB4
  rw [← hB4] at hb5 ho5
  have hB4' := hB4.symm
  clear hN hw5 hB4
  go_upto_region 6 with fail
  clear hex5 hB4'
  go_wp2_with fail
  go_loopw [5, 6] (fun v i wr => ∃ k : Nat, k + 1 ≤ N ∧ i = .int .i64 k ∧ Own EArc 27 B4 wr v (Gr.line k) ∧ Below B4 w4 wr) (fun _ i _ => N - (intOf i).toNat)
  case atStart => exact ⟨0, by omega, rfl, ho5, hb5⟩
  case round =>
    clear ho5 hb5
    obtain ⟨k, hk, rfl, ho, hb⟩ := hrel
    by_cases hlt : k + 1 < N
    · have hki : (k : Int) + 1 < (N : Int) := by omega
      have hk0 : 0 ≤ (k : Int) := by omega
      have hBw : B4 ≤ wr.heap.size := by have := hb.size; rw [← HB4.out] at this; exact this
      have hl := Gr.line_len k
      have Ho7 := Lib.hid (ho.below (alloc_below wr (.cells #[.int .i64 (k : Int), .int .i64 ((k : Int) + 1)] 27)))
      have Hs7 : RowKit.Hid (Sl EArc (fun b => some b ≠ u5.ownBlock) (wr.alloc (.cells #[.int .i64 (k : Int), .int .i64 ((k : Int) + 1)] 27)) (some ⟨wr.heap.size, 0, none⟩) [((k : Int), (k : Int) + 1)]) :=
        Lib.hid (sl_one (heap_alloc_new wr _) (arc_mk (by omega) (by omega)) ho.fresh)
      have Hb7 := Lib.hid (hb.alloc hBw (.cells #[.int .i64 (k : Int), .int .i64 ((k : Int) + 1)] 27))
      clear ho hb
      go_wp2_with (refine wpList_app EArc rfl rfl (by rfl) (by rfl) ti_pairs Ho7.out rfl Hs7.out ?_ ?_ ?_ ?_)
      any_goals (first | omega | (simp [maxLen]; omega) | (simp; omega) | (simp; done))
      intro v' w' ho' hg hv hb'
      rw [← Gr.line_succ] at ho'
      have hbF := Hb7.out.trans hb'
      go_wp2_with fail
      go_roundw
      case rel => exact ⟨k + 1, by omega, by go_num, ho', hbF⟩
      case measure => simp [intOf]; omega
    · have hki : ¬ ((k : Int) + 1 < (N : Int)) := by omega
      obtain rfl : k = N - 1 := by omega
      obtain ⟨w6, rfl⟩ : ∃ x : World, x = wr := ⟨_, rfl⟩
      have Hb06 := Lib.hid (Hb04.out.trans (hb.mono (by rw [HB4.out]; exact Hb04.out.size)))
      obtain ⟨aT, cT, rfl, hcT, hmT, hrT, hxT⟩ := ho.shape (N - 1) (by rw [Gr.line_len])
      have HrT6 := Lib.hid hrT
      have Ho6 := Lib.hid ho
      have hcI : ((N - 1 : Nat) : Int) + 1 = (N : Int) := by omega
      have hB6 : B4 ≤ w6.heap.size := by have := hb.size; rw [← HB4.out] at this; exact this
      clear ho hrT hxT hb hlt hk
      have hP : (N - 1 : Nat) ≤ 100000 := by omega
      go_wp2_with fail
      refine (law07_arcs _ _ _ _ (Gr.line (N - 1)) _ rfl HrT6.out hP).mono ?_
      rintro e w7 ⟨v7, rfl, ho7, hb7⟩
      obtain ⟨a7, c7, rfl, hc7, hm7, hr7, _⟩ := ho7.shape (N - 1) (by rw [Gr.line_len])
      have hB7 : B4 ≤ w7.heap.size := Nat.le_trans hB6 hb7.size
      have Hb07 := Lib.hid (Hb06.out.trans (hb7.mono Hb06.out.size))
      have HrT7 := Lib.hid (HrT6.out.below (by decide) hb7)
      have Ho7 := Lib.hid (Ho6.out.below hb7)
      have Hr7 := Lib.hid hr7
      clear ho7 hb7 hr7 Ho6
      go_wp2_with fail
      refine (graph_Order _ N N _ _ _ (Gr.line (N - 1)) _ rfl Hr7.out HN6.out hP).mono ?_
      rintro e w8 ⟨v8, rfl, ho8, hb8⟩
      rw [Gr.topo_line'] at ho8 ⊢
      obtain ⟨a8, c8, rfl, hc8, hm8, hr8, _⟩ := ho8.shape N (by simp [natI_len])
      have hB8 : B4 ≤ w8.heap.size := Nat.le_trans hB7 hb8.size
      have Hb08 := Lib.hid (Hb07.out.trans (hb8.mono Hb07.out.size))
      have HrT8 := Lib.hid (HrT7.out.below (by decide) hb8)
      have Ho8 := Lib.hid (Ho7.out.below hb8)
      have Hr8 := Lib.hid (show RS EInt w8 a8 N (natI (List.range N)) from hr8)
      clear ho8 hb8 hr8 Ho7
      go_wp2_with fail
      refine (law07_arcs _ _ _ _ (Gr.line (N - 1)) _ rfl HrT8.out hP).mono ?_
      rintro e w9 ⟨v9, rfl, ho9, hb9⟩
      obtain ⟨a9, c9, rfl, hc9, hm9, hr9, _⟩ := ho9.shape (N - 1) (by rw [Gr.line_len])
      have hB9 : B4 ≤ w9.heap.size := Nat.le_trans hB8 hb9.size
      have Hb09 := Lib.hid (Hb08.out.trans (hb9.mono Hb08.out.size))
      have HrT9 := Lib.hid (HrT8.out.below (by decide) hb9)
      have HrO9 := Lib.hid (Hr8.out.below (by decide) hb9)
      have Ho9 := Lib.hid (Ho8.out.below hb9)
      have Hr9 := Lib.hid hr9
      clear ho9 hb9 hr9 Ho8
      go_wp2_with fail
      refine (graph_Reach _ N N _ _ _ (Gr.line (N - 1)) _ rfl Hr9.out HN6.out hP).mono ?_
      rintro e w10 ⟨g1, rows1, cp1, rfl, hM1, hb10⟩
      have hB10 : B4 ≤ w10.heap.size := Nat.le_trans hB9 hb10.size
      have Hb010 := Lib.hid (Hb09.out.trans (hb10.mono Hb09.out.size))
      have HrT10 := Lib.hid (HrT9.out.below (by decide) hb10)
      have HrO10 := Lib.hid (HrO9.out.below (by decide) hb10)
      have Ho10 := Lib.hid (Ho9.out.below hb10)
      have HM1 := Lib.hid hM1
      clear hM1 hb10 Ho9
      go_wp2_with fail
      refine (law07_arcs _ _ _ _ (Gr.line (N - 1)) _ rfl HrT10.out hP).mono ?_
      rintro e w11 ⟨v11, rfl, ho11, hb11⟩
      obtain ⟨a11, c11, rfl, hc11, hm11, hr11, _⟩ := ho11.shape (N - 1) (by rw [Gr.line_len])
      have hB11 : B4 ≤ w11.heap.size := Nat.le_trans hB10 hb11.size
      have Hb011 := Lib.hid (Hb010.out.trans (hb11.mono Hb010.out.size))
      have HrO11 := Lib.hid (HrO10.out.below (by decide) hb11)
      have HM11 := Lib.hid (HM1.out.below hb11)
      have Ho11 := Lib.hid (Ho10.out.below hb11)
      have Hr11 := Lib.hid hr11
      clear ho11 hb11 hr11 Ho10
      go_wp2_with fail
      refine (graph_Cycle _ N N _ _ _ (Gr.line (N - 1)) _ rfl Hr11.out HN6.out hP).mono ?_
      rintro e w12 ⟨v12, cy, rfl, hcy, ho12, hb12⟩
      obtain rfl := Gr.cyc_line hcy
      obtain ⟨a12, c12, rfl, _, _, hz12, _⟩ := ho12.shape 0 rfl
      have hB12 : B4 ≤ w12.heap.size := Nat.le_trans hB11 hb12.size
      have Hb012 := Lib.hid (Hb011.out.trans (hb12.mono Hb011.out.size))
      have HrO12 := Lib.hid (HrO11.out.below (by decide) hb12)
      have HM12 := Lib.hid (HM11.out.below hb12)
      have Ho12 := Lib.hid (Ho11.out.below hb12)
      obtain ⟨F, hF⟩ : ∃ F : Nat, F = ((from' % 1024) % N).toNat := ⟨_, rfl⟩
      have hF0 : from' % 1024 % (N : Int) = (F : Int) := by rw [hF]; exact (Int.toNat_of_nonneg (Int.emod_nonneg _ (by omega))).symm
      have hFN : F < N := by
        have := Int.emod_lt_of_pos (from' % 1024) (show 0 < (N : Int) by omega)
        omega
      have hF1 : (from' % 1024).tmod (N : Int) = (F : Int) := by rw [Int.tmod_eq_emod_of_nonneg (by omega)]; exact hF0
      have y1 := HM12.out.cell hFN
      clear hF ho12 hb12 hz12 Ho11 HM11 hcy
      have hsO := HrO12.out.2
      obtain ⟨bO, oO, hae, hcs0⟩ := SlI.all hsO (by rw [natI_len, List.length_range]; omega)
      have hcs : ∀ k, k < N → w12.cell? ⟨bO, oO + k, none⟩ = some (.int .i64 (k : Int)) := fun k hk => by
        have := hcs0 k (by rw [natI_len, List.length_range]; exact hk)
        rw [natI_get] at this
        simpa using this
      have Hcs := Lib.hid hcs
      subst hae
      clear hcs0 hcs hsO
      go_wp2_with fail
      go_loopw [84] (fun i wr => ∃ k : Nat, k ≤ N ∧ i = .int .i64 k ∧ w12 = wr) (fun i _ => N - (intOf i).toNat)
      case atStart => exact ⟨0, Nat.zero_le _, rfl, rfl⟩
      case round =>
        obtain ⟨k, hk, rfl, rfl⟩ := hrel
        by_cases hlt : k < N
        · have hki : (k : Int) < (N : Int) := by omega
          have hk0 : (0 : Int) ≤ (k : Int) := by omega
          have y2 := Hcs.out k hlt
          have y3 := HM12.out.at hFN hlt
          rw [Gr.way_line hlt] at y3
          have hbb : ((decide (F < k)) != decide ((F : Int) < (k : Int))) = false := by simp
          go_wp2_with fail
          go_roundw
          case rel => exact ⟨k + 1, by omega, by go_num, trivial⟩
          case measure => simp [intOf]; omega
        · have hki : ¬ ((k : Int) < (N : Int)) := by omega
          have Ho7 := Lib.hid (Ho12.out.below (alloc_below w12 (.cells #[.int .i64 ((N : Int) - 1), .int .i64 0] 27)))
          have Hs7 : RowKit.Hid (Sl EArc (fun b => some b ≠ (Value.slice aT (N - 1) cT).ownBlock) (w12.alloc (.cells #[.int .i64 ((N : Int) - 1), .int .i64 0] 27)) (some ⟨w12.heap.size, 0, none⟩) [((N : Int) - 1, 0)]) :=
            Lib.hid (sl_one (heap_alloc_new w12 _) (arc_mk (by omega) (by omega)) Ho12.out.fresh)
          have hl := Gr.line_len (N - 1)
          clear hlt hk y1
          go_wp2_with (refine wpList_app EArc rfl rfl (by rfl) (by rfl) ti_pairs Ho7.out rfl Hs7.out ?_ ?_ ?_ ?_)
          any_goals (first | omega | (simp [maxLen]; omega) | (simp; omega) | (simp; done))
          intro v13 w13 ho13 hg13 hv13 hb13
          have Hb013 : RowKit.Hid (Below W.heap.size W w13) := Lib.hid (((Hb012.out.trans ((alloc_below w12 _).mono Hb012.out.size))).trans (hb13.mono (show W.heap.size ≤ B4 by rw [HB4.out]; exact Hb04.out.size)))
          obtain ⟨a13, c13, rfl, hc13, hm13, hr13, hx13⟩ := ho13.shape N (by rw [List.length_append, Gr.line_len]; simp; omega)
          have HrT13 := Lib.hid hr13
          have hP2 : N ≤ 100000 := by omega
          clear ho13 hg13 hv13 hb13 hr13 hx13 hl
          go_wp2_with fail
          refine (law07_arcs _ _ _ _ (Gr.line (N - 1) ++ [((N : Int) - 1, 0)]) _ rfl HrT13.out hP2).mono ?_
          rintro e w14 ⟨v14, rfl, ho14, hb14⟩
          obtain ⟨a14, c14, rfl, hc14, hm14, hr14, _⟩ := ho14.shape N (by rw [List.length_append, Gr.line_len]; simp; omega)
          have Hb014 := Lib.hid (Hb013.out.trans (hb14.mono Hb013.out.size))
          have HrT14 := Lib.hid (HrT13.out.below (by decide) hb14)
          have Hr14 := Lib.hid hr14
          clear ho14 hb14 hr14
          go_wp2_with fail
          refine (graph_Cycle _ N N _ _ _ (Gr.line (N - 1) ++ [((N : Int) - 1, 0)]) _ rfl Hr14.out HN6.out hP2).mono ?_
          rintro e w15 ⟨v15, cy, rfl, hcy, ho15, hb15⟩
          have hto := Gr.topo_ring (by omega) hcy
          obtain rfl := Gr.cyc_ring (by omega) hcy
          obtain ⟨a15, c15, rfl, hc15, hm15, hr15, _⟩ := ho15.shape N (by simp [natI_len])
          have Hb015 := Lib.hid (Hb014.out.trans (hb15.mono Hb014.out.size))
          have HrT15 := Lib.hid (HrT14.out.below (by decide) hb15)
          have HrC15 := Lib.hid (show RS EInt w15 a15 N (natI (List.range N)) from hr15)
          have Hto := Lib.hid hto
          clear ho15 hb15 hr15 hcy hto
          go_wp2_with fail
          refine (law07_arcs _ _ _ _ (Gr.line (N - 1) ++ [((N : Int) - 1, 0)]) _ rfl HrT15.out hP2).mono ?_
          rintro e w16 ⟨v16, rfl, ho16, hb16⟩
          obtain ⟨a16, c16, rfl, hc16, hm16, hr16, _⟩ := ho16.shape N (by rw [List.length_append, Gr.line_len]; simp; omega)
          have Hb016 := Lib.hid (Hb015.out.trans (hb16.mono Hb015.out.size))
          have HrC16 := Lib.hid (HrC15.out.below (by decide) hb16)
          have Hr16 := Lib.hid hr16
          clear ho16 hb16 hr16
          go_wp2_with fail
          refine (graph_Order _ N N _ _ _ (Gr.line (N - 1) ++ [((N : Int) - 1, 0)]) _ rfl Hr16.out HN6.out hP2).mono ?_
          rintro e w17 ⟨v17, rfl, ho17, hb17⟩
          rw [show (Gr.topo N (Gr.T N (Gr.line (N - 1) ++ [((N : Int) - 1, 0)])) N []).isSome = false from Hto.out]
          have Hb017 := Lib.hid (Hb016.out.trans (hb17.mono Hb016.out.size))
          have HrC17 := Lib.hid (HrC16.out.below (by decide) hb17)
          have hsC := HrC17.out.2
          obtain ⟨bC, oC, hae, hcs0⟩ := SlI.all hsC (by rw [natI_len, List.length_range]; omega)
          have hcs : ∀ k, k < N → w17.cell? ⟨bC, oC + k, none⟩ = some (.int .i64 (k : Int)) := fun k hk => by
            have := hcs0 k (by rw [natI_len, List.length_range]; exact hk)
            rw [natI_get] at this
            simpa using this
          have HcsC := Lib.hid hcs
          subst hae
          clear ho17 hb17 hcs0 hcs hsC
          go_wp2_with fail
          go_loopw [133] (fun i wr => ∃ k : Nat, k ≤ N ∧ i = .int .i64 k ∧ w17 = wr) (fun i _ => N - (intOf i).toNat)
          case atStart => exact ⟨0, Nat.zero_le _, rfl, rfl⟩
          case round =>
            obtain ⟨k, hk, rfl, rfl⟩ := hrel
            by_cases hlt : k < N
            · have hki : (k : Int) < (N : Int) := by omega
              have hk0 : (0 : Int) ≤ (k : Int) := by omega
              have y2 := HcsC.out k hlt
              go_wp2_with fail
              go_roundw
              case rel => exact ⟨k + 1, by omega, by go_num, trivial⟩
              case measure => simp [intOf]; omega
            · have hki : ¬ ((k : Int) < (N : Int)) := by omega
              go_wp2_with fail
              go_ret
              exact ⟨rfl, Hb017.out⟩
end Go.Proofs.Yticpbiccgnfecaa

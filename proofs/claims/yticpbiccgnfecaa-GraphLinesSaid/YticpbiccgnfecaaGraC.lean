
/-
  Which lists are cycles: the program's look and the reference's.
-/
import Derived.Test.YticpbiccgnfecaaGraN
import Derived.Test.YticpbiccgnfecaaGraB
namespace Go.Proofs.Yticpbiccgnfecaa
open Go.RowKit
set_option linter.unusedVariables false

namespace Gr
/-- the node behind the i-th one, round the end -/
def nxt (c : List Int) (i : Nat) : Int := c.getD ((i + 1) % c.length) 0
def okP (n : Nat) (R : Rel) (c : List Int) (i : Nat) : Prop := (0 ≤ c.getD i 0 ∧ c.getD i 0 < (n : Int)) ∧ nxt c i ∈ rowI n R (c.getD i 0).toNat ∧ c.getD i 0 ∉ c.take i
instance (n : Nat) (R : Rel) (c : List Int) (i : Nat) : Decidable (okP n R c i) := by unfold okP; infer_instance
def isC (n : Nat) (R : Rel) (c : List Int) : Prop := (∀ i, i < c.length → okP n R c i) ∧ 0 < c.length
instance (n : Nat) (R : Rel) (c : List Int) : Decidable (isC n R c) := by unfold isC; infer_instance
theorem mem_rowI {n : Nat} {R : Rel} {i : Nat} {x : Int} : x ∈ rowI n R i ↔ ∃ v : Nat, x = v ∧ v < n ∧ R i v = true := by
  unfold rowI
  rw [List.mem_map]
  constructor
  · rintro ⟨v, hv, rfl⟩; exact ⟨v, rfl, mem_row.1 hv⟩
  · rintro ⟨v, rfl, hv⟩; exact ⟨v, mem_row.2 hv, rfl⟩
theorem isC_ref {n : Nat} {R : Rel} (hR : Bd n R) (c : List Int) : isC n R c ↔ (∀ i, i < c.length → (0 ≤ c.getD i 0 ∧ c.getD i 0 < (n : Int)) ∧ c.getD i 0 ∉ c.take i) ∧ (∀ i, i < c.length → R (c.getD i 0).toNat (nxt c i).toNat = true) ∧ 0 < c.length := by
  constructor
  · rintro ⟨h, h0⟩
    refine ⟨fun i hi => ⟨(h i hi).1, (h i hi).2.2⟩, fun i hi => ?_, h0⟩
    obtain ⟨v, e, _, hr⟩ := mem_rowI.1 (h i hi).2.1
    rw [e]; simpa using hr
  · rintro ⟨h1, h2, h0⟩
    refine ⟨fun i hi => ⟨(h1 i hi).1, ?_, (h1 i hi).2⟩, h0⟩
    have h3 := h1 ((i + 1) % c.length) (Nat.mod_lt _ h0)
    have e : nxt c i = c.getD ((i + 1) % c.length) 0 := rfl
    exact mem_rowI.2 ⟨(nxt c i).toNat, by rw [e]; omega, (hR _ _ (h2 i hi)).2, h2 i hi⟩
end Gr

theorem contains_sl {ok : Nat → Prop} (a : Option Addr) (n c : Nat) (l : List Int) (x : Int) (w : World) (h : Sl EInt ok w a l) (hn : n = l.length) (hl : n ≤ 1000000) :
    Calls Try.prog 26 #[.slice a n c, .int .i64 x] w fun e w' => e = .returned (.bool (l.contains x)) ∧ w = w' := by
  subst hn
  by_cases h0 : l.length = 0
  · have : l = [] := List.eq_nil_of_length_eq_zero h0
    subst this
    exact (shf_slices_Contains_int_empty a c x w).mono fun e w' ⟨h1, h2⟩ => ⟨h1, h2.symm⟩
  · obtain ⟨b, o, rfl, hc⟩ := SlI.all h (by omega)
    refine (shf_slices_Contains_int b o l.length c l x w (Nat.le_refl _) (by omega) (fun j hj => ?_)).mono fun e w' ⟨h1, h2⟩ => ⟨by rw [h1, List.take_length], h2.symm⟩
    rw [hc j hj]; simp [List.getD, hj]

theorem slI_take {ok : Nat → Prop} {w : World} {a : Option Addr} {l : List Int} (h : Sl EInt ok w a l) (k : Nat) : Sl EInt ok w a (l.take k) := by
  intro i x hx
  rw [List.getElem?_take] at hx
  split at hx
  · exact h i x hx
  · cases hx

set_option maxRecDepth 4096 in
set_option maxHeartbeats 1600000 in
theorem graph_Is (B : Nat) (n : Int) (N : Nat) (a : Option Addr) (m c : Nat) (l : List (Int × Int)) (a2 : Option Addr) (m2 c2 : Nat) (cy : List Int) (w : World) (hB : w.heap.size = B) (hr : RS EArc w a m l) (hr2 : RS EInt w a2 m2 cy) (hN : min (max n 0) 400 = (N : Int)) (hl : m ≤ 100000) (hl2 : m2 ≤ 100000) (hc2 : m2 ≤ c2) (hcm : c2 ≤ maxLen) :
    Calls Try.prog 11 #[.int .i64 n, .slice a m c, .slice a2 m2 c2] w fun e w' => e = .returned (.bool (decide (Gr.isC N (Gr.T N l) cy))) ∧ Below B w w' := by
  obtain ⟨rfl, hs2⟩ := hr2
  obtain ⟨res, hres⟩ : ∃ x, x = decide (Gr.isC N (Gr.T N l) cy) := ⟨_, rfl⟩
  rw [← hres]
  have Hres := Lib.hid hres
  clear hres
  have hNl : N ≤ 400 := by omega
  have HN := Lib.hid hN
  have hN0 : (0 : Int) ≤ (N : Int) := by omega
  unfold maxLen at hcm
  clear hN
  go_enter Try.func11, Try.ntmps11
  go_wp2_with fail
  refine (graph_size n _).mono ?_
  rintro e w' ⟨rfl, rfl⟩
  rw [HN.out]
  go_wp2_with fail
  refine (graph_next B N a m c l _ hB hr (by omega) hl).mono ?_
  rintro e w2 ⟨rfl, ⟨vs, hR⟩, hb⟩
  have hs3 : Sl EInt (fun _ => True) w2 a2 cy := hs2.below (by decide) (by rw [hB]; exact hb)
  have HR := Lib.hid hR
  have Hb := Lib.hid hb
  have Hs3 := Lib.hid hs3
  clear hR hb hs3 hs2 hB hr
  go_wp2_with fail
  go_loopw [17] (fun i wr => ∃ k : Nat, k ≤ cy.length ∧ i = .int .i64 k ∧ RowKit.Hid (∀ j, j < k → Gr.okP N (Gr.T N l) cy j) ∧ wr = w2) (fun i _ => cy.length - (intOf i).toNat)
  case atStart => exact ⟨0, Nat.zero_le _, rfl, Lib.hid (fun j hj => by omega), rfl⟩
  case round =>
    obtain ⟨k, hk, rfl, hall, rfl⟩ := hrel
    by_cases hlt : k < cy.length
    · have hki : (k : Int) < (cy.length : Int) := by omega
      have hk0 : (0 : Int) ≤ (k : Int) := by omega
      obtain ⟨b2, o2, rfl, hcs⟩ := SlI.all Hs3.out (by omega)
      have p1 := hcs k hlt
      obtain ⟨p, hp⟩ : ∃ p, p = (k + 1) % cy.length := ⟨_, rfl⟩
      have hplt : p < cy.length := by rw [hp]; exact Nat.mod_lt _ (by omega)
      have hpi : ((k : Int) + 1) % (cy.length : Int) = (p : Int) := by rw [hp]; simp
      have hpt : ((k : Int) + 1).tmod (cy.length : Int) = (p : Int) := by rw [Int.tmod_eq_emod_of_nonneg (by omega)]; exact hpi
      have p2 := hcs p hplt
      have e1 : cy.getD k 0 = cy[k] := by simp [List.getD, hlt]
      have e2 : Gr.nxt cy k = cy[p] := by unfold Gr.nxt; rw [← hp]; simp [List.getD, hplt]
      have hok : Gr.okP N (Gr.T N l) cy k ↔ (0 ≤ cy[k] ∧ cy[k] < (N : Int)) ∧ cy[p] ∈ Gr.rowI N (Gr.T N l) cy[k].toNat ∧ cy[k] ∉ cy.take k := by unfold Gr.okP; rw [e1, e2]
      obtain ⟨x, hx⟩ : ∃ x, x = cy[k] := ⟨_, rfl⟩
      obtain ⟨y, hy⟩ : ∃ y, y = cy[p] := ⟨_, rfl⟩
      rw [← hx] at p1 hok
      rw [← hy] at p2 hok
      have hp0 : (0 : Int) ≤ (p : Int) := by omega
      have hp1 : (p : Int) < (cy.length : Int) := by omega
      have Hok := Lib.hid hok
      clear hp e1 e2 hx hy hok hcs
      by_cases hok : Gr.okP N (Gr.T N l) cy k
      · obtain ⟨⟨d1, d2⟩, d3, d4⟩ := Hok.out.1 hok
        have hall' : RowKit.Hid (∀ j, j < k + 1 → Gr.okP N (Gr.T N l) cy j) := Lib.hid fun j hj => by
          by_cases e : j = k
          · subst e; exact hok
          · exact hall.out j (by omega)
        obtain ⟨u, rfl⟩ : ∃ u : Nat, x = (u : Int) := ⟨x.toNat, by omega⟩
        have hu : u < N := by omega
        rw [Int.toNat_natCast] at d3
        have q1 := HR.out.cell u hu
        obtain ⟨a3, c3, hv3, hc31, hc32, hs31⟩ := HR.out.row u hu
        have hle := Gr.rowI_le N (Gr.T N l) u
        rw [hv3] at q1
        have d3' : (Gr.rowI N (Gr.T N l) u).contains y = true := by simpa using d3
        have d4' : (cy.take k).contains (u : Int) = false := by simpa using d4
        obtain ⟨L, hL⟩ : ∃ L, L = Gr.rowI N (Gr.T N l) u := ⟨_, rfl⟩
        rw [← hL] at q1 hs31 hle d3' hc31
        have Hs31 := Lib.hid hs31
        have D4 := Lib.hid d4'
        have hlk : (cy.take k).length = k := by rw [List.length_take]; omega
        have Hlk := Lib.hid hlk
        clear hL hs31 hv3 d3 d4 hok hall d4' hlk
        go_wp2_with fail
        refine (contains_sl a3 _ c3 L y _ Hs31.out rfl (by omega)).mono ?_
        rintro e w' ⟨rfl, rfl⟩
        rw [d3']
        go_wp2_with fail
        refine (contains_sl _ _ _ (cy.take k) (u : Int) _ (slI_take Hs3.out k) Hlk.out.symm (by omega)).mono ?_
        rintro e w' ⟨rfl, rfl⟩
        rw [D4.out]
        go_wp2_with fail
        go_roundw
        case rel => exact ⟨k + 1, by omega, by go_num, hall', trivial⟩
        case measure => simp [intOf]; omega
      · have hres : res = false := by rw [Hres.out]; exact decide_eq_false fun h => hok (h.1 k hlt)
        subst hres
        have hok' := fun h => hok (Hok.out.2 h)
        have Hok' := Lib.hid hok'
        clear hok' hok hall
        by_cases d1 : x < 0
        · go_wp2_with fail
          go_ret
          exact ⟨rfl, Hb.out⟩
        by_cases d2 : (N : Int) ≤ x
        · go_wp2_with fail
          go_ret
          exact ⟨rfl, Hb.out⟩
        obtain ⟨u, rfl⟩ : ∃ u : Nat, x = (u : Int) := ⟨x.toNat, by omega⟩
        have hu : u < N := by omega
        have q1 := HR.out.cell u hu
        obtain ⟨a3, c3, hv3, hc31, hc32, hs31⟩ := HR.out.row u hu
        have hle := Gr.rowI_le N (Gr.T N l) u
        rw [hv3] at q1
        have hn := Hok'.out
        rw [Int.toNat_natCast] at hn
        obtain ⟨L, hL⟩ : ∃ L, L = Gr.rowI N (Gr.T N l) u := ⟨_, rfl⟩
        rw [← hL] at q1 hs31 hle hc31 hn
        have Hs31 := Lib.hid hs31
        have hlk : (cy.take k).length = k := by rw [List.length_take]; omega
        have Hlk := Lib.hid hlk
        have Hn := Lib.hid hn
        clear hL hs31 hv3 Hok' hn hlk
        by_cases d3 : L.contains y = true
        · have d4 : (cy.take k).contains (u : Int) = true := by
            rw [List.contains_eq_mem, decide_eq_true_eq]
            refine Classical.byContradiction fun h4 => Hn.out ⟨⟨by omega, by omega⟩, by simpa using d3, h4⟩
          have D4 := Lib.hid d4
          clear d4
          go_wp2_with fail
          refine (contains_sl a3 _ c3 L y _ Hs31.out rfl (by omega)).mono ?_
          rintro e w' ⟨rfl, rfl⟩
          rw [d3]
          go_wp2_with fail
          refine (contains_sl _ _ _ (cy.take k) (u : Int) _ (slI_take Hs3.out k) Hlk.out.symm (by omega)).mono ?_
          rintro e w' ⟨rfl, rfl⟩
          rw [D4.out]
          go_wp2_with fail
          go_ret
          exact ⟨rfl, Hb.out⟩
        · have d3' : L.contains y = false := by simpa using d3
          clear d3
          go_wp2_with fail
          refine (contains_sl a3 _ c3 L y _ Hs31.out rfl (by omega)).mono ?_
          rintro e w' ⟨rfl, rfl⟩
          rw [d3']
          go_wp2_with fail
          go_ret
          exact ⟨rfl, Hb.out⟩
    · have hki : ¬ ((k : Int) < (cy.length : Int)) := by omega
      have hkl : k = cy.length := by omega
      by_cases h0 : 0 < cy.length
      · have hres : res = true := by rw [Hres.out]; exact decide_eq_true ⟨fun i hi => hall.out i (by omega), h0⟩
        subst hres
        clear hkl
        go_wp2_with fail
        go_ret
        exact ⟨rfl, Hb.out⟩
      · have hres : res = false := by rw [Hres.out]; exact decide_eq_false fun h => h0 h.2
        subst hres
        clear hkl
        go_wp2_with fail
        go_ret
        exact ⟨rfl, Hb.out⟩

set_option maxRecDepth 4096 in
set_option maxHeartbeats 1600000 in
theorem ref07_Is (g N : Nat) (rows cp : Nat → Nat) (R : Gr.Rel) (a2 : Option Addr) (m2 c2 : Nat) (cy : List Int) (w : World) (hM : Mtx 33 4 w g N N N rows cp R) (hR : Gr.Bd N R) (hr2 : RS EInt w a2 m2 cy) (hNl : N ≤ 100000) (hl2 : m2 ≤ 100000) :
    Calls Try.prog 13 #[.slice (some ⟨g, 0, none⟩) N N, .slice a2 m2 c2] w fun e w' => e = .returned (.bool (decide (Gr.isC N R cy))) ∧ ∃ q, w' = w.drewN q := by
  obtain ⟨rfl, hs2⟩ := hr2
  obtain ⟨res, hres⟩ : ∃ x, x = decide (Gr.isC N R cy) := ⟨_, rfl⟩
  rw [← hres]
  have hres2 := hres
  rw [show decide (Gr.isC N R cy) = decide ((∀ i, i < cy.length → (0 ≤ cy.getD i 0 ∧ cy.getD i 0 < (N : Int)) ∧ cy.getD i 0 ∉ cy.take i) ∧ (∀ i, i < cy.length → R (cy.getD i 0).toNat (Gr.nxt cy i).toNat = true) ∧ 0 < cy.length) from by rw [Bool.eq_iff_iff, decide_eq_true_eq, decide_eq_true_eq]; exact Gr.isC_ref hR cy] at hres2
  have Hres := Lib.hid hres2
  clear hres hres2
  have HM := Lib.hid hM
  have hN0 : (0 : Int) ≤ (N : Int) := by omega
  clear hM
  go_enter Try.func13, Try.ntmps13
  go_wp2_with fail
  go_loopw [12] (fun i wr => ∃ k : Nat, k ≤ cy.length ∧ i = .int .i64 k ∧ RowKit.Hid (∀ j, j < k → (0 ≤ cy.getD j 0 ∧ cy.getD j 0 < (N : Int)) ∧ cy.getD j 0 ∉ cy.take j) ∧ w = wr) (fun i _ => cy.length - (intOf i).toNat)
  case atStart => exact ⟨0, Nat.zero_le _, rfl, Lib.hid (fun j hj => by omega), rfl⟩
  case round =>
    obtain ⟨k, hk, rfl, hall, rfl⟩ := hrel
    by_cases hlt : k < cy.length
    · have hki : (k : Int) < (cy.length : Int) := by omega
      have hk0 : (0 : Int) ≤ (k : Int) := by omega
      obtain ⟨b2, o2, rfl, hcs⟩ := SlI.all hs2 (by omega)
      have p1 := hcs k hlt
      have e1 : cy.getD k 0 = cy[k] := by simp [List.getD, hlt]
      have Hcs := Lib.hid hcs
      obtain ⟨x, hx⟩ : ∃ x, x = cy[k] := ⟨_, rfl⟩
      rw [← hx] at p1 e1
      have E1 := Lib.hid e1
      clear hx e1 hcs
      by_cases d1 : x < 0
      · have hres : res = false := by rw [Hres.out]; refine decide_eq_false fun h => ?_; have := (h.1 k hlt).1.1; rw [E1.out] at this; omega
        subst hres
        go_wp2_with fail
        go_ret
        exact ⟨rfl, 0, rfl⟩
      by_cases d2 : (N : Int) ≤ x
      · have hres : res = false := by rw [Hres.out]; refine decide_eq_false fun h => ?_; have := (h.1 k hlt).1.2; rw [E1.out] at this; omega
        subst hres
        go_wp2_with fail
        go_ret
        exact ⟨rfl, 0, rfl⟩
      go_wp2_with fail
      go_loopw [7] (fun i wr2 => ∃ j : Nat, j ≤ k ∧ i = .int .i64 j ∧ RowKit.Hid (x ∉ cy.take j) ∧ w = wr2) (fun i _ => k - (intOf i).toNat)
      case atStart => exact ⟨0, Nat.zero_le _, rfl, Lib.hid (by simp), rfl⟩
      case round =>
        obtain ⟨j, hj, rfl, hnot, rfl⟩ := hrel
        by_cases hjk : j < k
        · have hji : (j : Int) < (k : Int) := by omega
          have hj0 : (0 : Int) ≤ (j : Int) := by omega
          have hjl : (j : Int) < (cy.length : Int) := by omega
          have p2 := Hcs.out j (by omega)
          have t1 : cy.take (j + 1) = cy.take j ++ [cy[j]'(by omega)] := (List.take_append_getElem (by omega)).symm
          have hmem : cy[j]'(by omega) ∈ cy.take k := by
            rw [List.mem_take_iff_getElem]
            exact ⟨j, by omega, rfl⟩
          obtain ⟨y, hy⟩ : ∃ y, y = cy[j]'(by omega) := ⟨_, rfl⟩
          rw [← hy] at p2 t1 hmem
          have T1 := Lib.hid t1
          have Hmem := Lib.hid hmem
          clear hy t1 hmem
          by_cases hxy : y = x
          · subst hxy
            have hres : res = false := by rw [Hres.out]; refine decide_eq_false fun h => ?_; have := (h.1 k hlt).2; rw [E1.out] at this; exact this Hmem.out
            subst hres
            go_wp2_with fail
            go_ret
            exact ⟨rfl, 0, rfl⟩
          · have hxy' : (y == x) = false := by simpa using hxy
            go_wp2_with fail
            go_roundw
            case rel => exact ⟨j + 1, by omega, by go_num, Lib.hid (by rw [T1.out]; intro h; rcases List.mem_append.1 h with h | h; exact hnot.out h; simp at h; exact hxy h.symm), trivial⟩
            case measure => simp [intOf]; omega
        · have hji : ¬ ((j : Int) < (k : Int)) := by omega
          obtain rfl : j = k := by omega
          have hall' : RowKit.Hid (∀ q, q < j + 1 → (0 ≤ cy.getD q 0 ∧ cy.getD q 0 < (N : Int)) ∧ cy.getD q 0 ∉ cy.take q) := Lib.hid fun q hq => by
            by_cases e : q = j
            · subst e; rw [E1.out]; exact ⟨⟨by omega, by omega⟩, hnot.out⟩
            · exact hall.out q (by omega)
          clear hnot hall hjk
          go_wp2_with fail
          go_roundw
          case rel => exact ⟨j + 1, by omega, by go_num, hall', trivial⟩
          case measure => simp [intOf]; omega
    · have hki : ¬ ((k : Int) < (cy.length : Int)) := by omega
      obtain rfl : k = cy.length := by omega
      clear hlt hki
      go_wp2_with fail
      go_loopw [39] (fun i wr => ∃ k : Nat, k ≤ cy.length ∧ i = .int .i64 k ∧ RowKit.Hid (∀ j, j < k → R (cy.getD j 0).toNat (Gr.nxt cy j).toNat = true) ∧ ∃ q, wr = w.drewN q) (fun i _ => cy.length - (intOf i).toNat)
      case atStart => exact ⟨0, Nat.zero_le _, rfl, Lib.hid (fun j hj => by omega), 0, rfl⟩
      case round =>
        obtain ⟨k, hk, rfl, hall2, q, rfl⟩ := hrel
        by_cases hlt : k < cy.length
        · have hki : (k : Int) < (cy.length : Int) := by omega
          have hk0 : (0 : Int) ≤ (k : Int) := by omega
          obtain ⟨b2, o2, rfl, hcs⟩ := SlI.all hs2 (by omega)
          have p1 := hcs k hlt
          obtain ⟨p, hp⟩ : ∃ p, p = (k + 1) % cy.length := ⟨_, rfl⟩
          have hplt : p < cy.length := by rw [hp]; exact Nat.mod_lt _ (by omega)
          have hpi : ((k : Int) + 1) % (cy.length : Int) = (p : Int) := by rw [hp]; simp
          have hpt : ((k : Int) + 1).tmod (cy.length : Int) = (p : Int) := by rw [Int.tmod_eq_emod_of_nonneg (by omega)]; exact hpi
          have hw1 : IntKind.i64.wrap ((k : Int) + 1) = (k : Int) + 1 := IntWalk.i64_in _ (by omega)
          have p2 := hcs p hplt
          have e1 : cy.getD k 0 = cy[k] := by simp [List.getD, hlt]
          have e2 : Gr.nxt cy k = cy[p] := by unfold Gr.nxt; rw [← hp]; simp [List.getD, hplt]
          have h1 := (hall.out k hlt).1
          have h2 := (hall.out p hplt).1
          rw [show cy.getD p 0 = cy[p] by simp [List.getD, hplt]] at h2
          rw [e1] at h1
          obtain ⟨x, hx⟩ : ∃ x, x = cy[k] := ⟨_, rfl⟩
          obtain ⟨y, hy⟩ : ∃ y, y = cy[p] := ⟨_, rfl⟩
          rw [← hx] at p1 e1 h1
          rw [← hy] at p2 e2 h2
          obtain ⟨u, rfl⟩ : ∃ u : Nat, x = (u : Int) := ⟨x.toNat, by omega⟩
          obtain ⟨v, rfl⟩ : ∃ v : Nat, y = (v : Int) := ⟨y.toNat, by omega⟩
          have hu : u < N := by omega
          have hv : v < N := by omega
          have q1 := HM.out.cell hu
          have q2 := HM.out.at hu hv
          obtain ⟨ru, hru⟩ : ∃ x, x = rows u := ⟨_, rfl⟩
          obtain ⟨cu, hcu⟩ : ∃ x, x = cp u := ⟨_, rfl⟩
          obtain ⟨bb, hbb⟩ : ∃ x, x = R u v := ⟨_, rfl⟩
          rw [← hru, ← hcu] at q1
          rw [← hru, ← hbb] at q2
          have E1 := Lib.hid e1
          have E2 := Lib.hid e2
          have Hbb := Lib.hid hbb
          have hp0 : (0 : Int) ≤ (p : Int) := by omega
          have hp1 : (p : Int) < (cy.length : Int) := by omega
          have hu0 : (0 : Int) ≤ (u : Int) := by omega
          have hu1 : (u : Int) < (N : Int) := by omega
          have hv0 : (0 : Int) ≤ (v : Int) := by omega
          have hv1 : (v : Int) < (N : Int) := by omega
          clear hp e1 e2 hx hy hcs h1 h2 hru hcu hbb
          go_upto_region 15 with fail
          go_quiet (fail)
          cases bb
          · have hres : res = false := by rw [Hres.out]; refine decide_eq_false fun h => ?_; have := h.2.1 k hlt; rw [E1.out, E2.out, Int.toNat_natCast, Int.toNat_natCast, ← Hbb.out] at this; cases this
            subst hres
            go_wp2_with fail
            go_ret
            exact ⟨rfl, _, World.drewN_drewN _ _ _⟩
          · have hall' : RowKit.Hid (∀ j, j < k + 1 → R (cy.getD j 0).toNat (Gr.nxt cy j).toNat = true) := Lib.hid fun j hj => by
              by_cases e : j = k
              · subst e; rw [E1.out, E2.out, Int.toNat_natCast, Int.toNat_natCast, ← Hbb.out]
              · exact hall2.out j (by omega)
            go_wp2_with fail
            go_roundw
            case rel => exact ⟨k + 1, by omega, by go_num, hall', _, rfl⟩
            case measure => simp [intOf]; omega
        · have hki : ¬ ((k : Int) < (cy.length : Int)) := by omega
          obtain rfl : k = cy.length := by omega
          by_cases h0 : 0 < cy.length
          · have hres : res = true := by rw [Hres.out]; exact decide_eq_true ⟨hall.out, hall2.out, h0⟩
            subst hres
            go_wp2_with fail
            go_ret
            exact ⟨rfl, _, rfl⟩
          · have hres : res = false := by rw [Hres.out]; exact decide_eq_false fun h => h0 h.2.2
            subst hres
            go_wp2_with fail
            go_ret
            exact ⟨rfl, _, rfl⟩
end Go.Proofs.Yticpbiccgnfecaa

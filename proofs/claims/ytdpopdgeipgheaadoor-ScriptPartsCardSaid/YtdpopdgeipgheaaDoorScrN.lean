
/-
  The document's comparison of scripts; the document's example.
-/
import Derived.Test.YtdpopdgeipgheaaDoorScrM
namespace Go.Proofs.YtdpopdgeipgheaaDoor
open Go.RowKit
set_option linter.unusedVariables false

theorem Below.drewN' {B : Nat} {a w : World} (h : Below B a w) (n : Nat) : Below B a (w.drewN n) := h.trans ⟨rfl, rfl, rfl, Nat.le_refl _, fun _ _ => rfl⟩
set_option maxRecDepth 100000 in
set_option maxHeartbeats 6400000 in
theorem ref14_Same (a1 a2 : Option Addr) (c1 c2 : Nat) (L1 L2 : List Sc.Step) (w : World) (h1 : Sl EStp (fun _ => True) w a1 L1) (h2 : Sl EStp (fun _ => True) w a2 L2) (hc1 : L1.length ≤ c1) (hc2 : L2.length ≤ c2) (hcm : c1 ≤ maxLen) :
    Calls Tryd.prog 18 #[.slice a1 L1.length c1, .slice a2 L2.length c2] w fun e w' => e = .returned (.bool (decide (L1 = L2))) ∧ Below w.heap.size w w' := by
  obtain ⟨res, hres⟩ : ∃ x : Bool, x = decide (L1 = L2) := ⟨_, rfl⟩
  rw [← hres]
  have Hres := Lib.hid hres
  have H1 := Lib.hid h1
  have H2 := Lib.hid h2
  clear hres h1 h2
  have hL1n : L1.length ≤ 9223372036854775807 := by unfold maxLen at hcm; omega
  go_enter Tryd.func18, Tryd.ntmps18
  by_cases hl : L1.length = L2.length
  case neg =>
    have hl' : ((L1.length : Int) != (L2.length : Int)) = true := by simp; omega
    have : res = false := by rw [Hres.out]; exact decide_eq_false fun e => hl (by rw [e])
    subst this
    clear hl
    go_wp2_with fail
    go_ret
    exact ⟨rfl, Below.refl _ _⟩
  have hl' : ((L1.length : Int) != (L2.length : Int)) = false := by simp; omega
  have Hl := Lib.hid hl
  clear hl
  go_wp2_with fail
  clear hl'
  go_loopw [14] (fun i wr => ∃ (j : Nat), j ≤ L1.length ∧ i = .int .i64 j ∧ RowKit.Hid (L1.take j = L2.take j) ∧ RowKit.Hid (Below w.heap.size w wr)) (fun i _ => L1.length - (intOf i).toNat)
  case atStart => exact ⟨0, Nat.zero_le _, rfl, Lib.hid rfl, Lib.hid (Below.refl _ _)⟩
  case round =>
    obtain ⟨j, hj, rfl, Heq, Hb⟩ := hrel
    by_cases hlt : j < L1.length
    · have hji : (j : Int) < (L1.length : Int) := by omega
      have hlt2 : j < L2.length := by rw [← Hl.out]; exact hlt
      have hji2 : (j : Int) < (L2.length : Int) := by omega
      obtain ⟨b1, o1, k1, d1, rfl, _, p0, p1, p2, p3, _, _, _, hd1, hm1, hs1⟩ := sl_stp H1.out j hlt
      obtain ⟨b2, o2, k2, d2, rfl, _, r0, r1, r2, r3, _, _, _, hd2, hm2, hs2⟩ := sl_stp H2.out j hlt2
      have ht1 : L1.take (j + 1) = L1.take j ++ [L1[j]] := (List.take_append_getElem hlt).symm
      have ht2 : L2.take (j + 1) = L2.take j ++ [L2[j]] := (List.take_append_getElem hlt2).symm
      have hne : L1[j] ≠ L2[j] → res = false := fun h => by
        rw [Hres.out]; refine decide_eq_false fun e => h ?_
        subst e; rfl
      have p0 := cell_thru p0 Hb.out
      have p1 := cell_thru p1 Hb.out
      have p2 := cell_thru p2 Hb.out
      have p3 := cell_thru p3 Hb.out
      have r0 := cell_thru r0 Hb.out
      have r1 := cell_thru r1 Hb.out
      have r2 := cell_thru r2 Hb.out
      have r3 := cell_thru r3 Hb.out
      obtain ⟨x, hx⟩ : ∃ x, x = L1[j] := ⟨_, rfl⟩
      obtain ⟨y, hy⟩ : ∃ x, x = L2[j] := ⟨_, rfl⟩
      rw [← hx] at p0 p1 p2 p3 hd1 hs1 ht1 hne
      rw [← hy] at r0 r1 r2 r3 hd2 hs2 ht2 hne
      clear hx hy
      obtain ⟨x1, x2, x3, x4⟩ := x
      obtain ⟨y1, y2, y3, y4⟩ := y
      dsimp only at p0 p1 p2 p3 hd1 hs1 r0 r1 r2 r3 hd2 hs2
      have Hne := Lib.hid hne
      have Ht1 := Lib.hid ht1
      have Ht2 := Lib.hid ht2
      have Hs1 := Lib.hid hs1
      have Hs2 := Lib.hid hs2
      clear hne ht1 ht2 hs1 hs2
      by_cases e1 : x1 = y1
      case neg =>
        have : res = false := Hne.out fun e => e1 (by injection e)
        subst this
        have hd : (x1 != y1) = true := by simpa using e1
        clear e1
        go_wp2_with fail
        go_quiet (fail)
        go_wp2_with fail
        go_ret
        exact ⟨rfl, Below.drewN' Hb.out nq⟩
      have he1 : (x1 != y1) = false := by simpa using e1
      by_cases e2 : x2 = y2
      case neg =>
        have : res = false := Hne.out fun e => e2 (by injection e with _ e2; injection e2)
        subst this
        have hd : (x2 != y2) = true := by simpa using e2
        clear e2
        go_wp2_with fail
        go_quiet (fail)
        go_wp2_with fail
        go_ret
        exact ⟨rfl, Below.drewN' Hb.out nq⟩
      have he2 : (x2 != y2) = false := by simpa using e2
      by_cases e3 : x3 = y3
      case neg =>
        have : res = false := Hne.out fun e => e3 (by injection e with _ e2; injection e2 with _ e3; injection e3)
        subst this
        have hd : (x3 != y3) = true := by simpa using e3
        clear e3
        go_wp2_with fail
        go_quiet (fail)
        go_wp2_with fail
        go_ret
        exact ⟨rfl, Below.drewN' Hb.out nq⟩
      have he3 : (x3 != y3) = false := by simpa using e3
      by_cases e4 : x4.length = y4.length
      case neg =>
        have : res = false := Hne.out fun e => e4 (by injection e with e1 e2; injection e2 with e2 e3; injection e3 with e3 e5; rw [e5])
        subst this
        have hd : ((x4.length : Int) != (y4.length : Int)) = true := by simp; omega
        clear e4 e1 e2 e3
        go_wp2_with fail
        go_quiet (fail)
        go_wp2_with fail
        go_ret
        exact ⟨rfl, Below.drewN' Hb.out nq⟩
      have he4 : ((x4.length : Int) != (y4.length : Int)) = false := by simp; omega
      have hx4 : x4.length ≤ 9223372036854775807 := by unfold maxLen at hm1; omega
      have E := Lib.hid (And.intro e1 (And.intro e2 (And.intro e3 e4)))
      clear e1 e2 e3 e4
      go_wp2_with fail
      go_quiet (fail)
      clear he1 he2 he3 he4
      have p3' : (wr.drewN nq).cell? ⟨b1, o1 + j * 4 + 3, none⟩ = some (.slice k1 x4.length d1) := p3
      go_wp2_with fail
      have Hb0 := Lib.hid (Below.drewN' Hb.out nq)
      obtain ⟨wq, hwq⟩ : ∃ z, z = wr.drewN nq := ⟨_, rfl⟩
      rw [← hwq] at Hb0 p3' ⊢
      have P3 := Lib.hid p3'
      have R3 := Lib.hid (show wq.cell? ⟨b2, o2 + j * 4 + 3, none⟩ = some (.slice k2 y4.length d2) by rw [hwq]; exact r3)
      clear p0 p1 p2 p3 r0 r1 r2 r3 p3' hwq Hb
      go_loopw [75] (fun i wr => ∃ (q : Nat), q ≤ x4.length ∧ i = .int .i64 q ∧ RowKit.Hid (x4.take q = y4.take q) ∧ RowKit.Hid (Below wq.heap.size wq wr)) (fun i _ => x4.length - (intOf i).toNat)
      case atStart => exact ⟨0, Nat.zero_le _, rfl, Lib.hid rfl, Lib.hid (Below.refl _ _)⟩
      case round =>
        obtain ⟨q, hq, rfl, Hqe, Hbq⟩ := hrel
        have Hbw := Lib.hid (Hb0.out.trans (Hbq.out.mono Hb0.out.size))
        by_cases hqt : q < x4.length
        · have hqi : (q : Int) < (x4.length : Int) := by omega
          have hqt2 : q < y4.length := by rw [← E.out.2.2.2]; exact hqt
          have hqi2 : (q : Int) < (y4.length : Int) := by omega
          obtain ⟨b3, o3, rfl, _, u0, _⟩ := sl_i Hs1.out q hqt
          obtain ⟨b4, o4, rfl, _, v0, _⟩ := sl_i Hs2.out q hqt2
          have u1 := cell_thru u0 Hbw.out
          have v1 := cell_thru v0 Hbw.out
          have p3 := cell_thru P3.out Hbq.out
          have r3 := cell_thru R3.out Hbq.out
          have tq1 : x4.take (q + 1) = x4.take q ++ [x4[q]] := (List.take_append_getElem hqt).symm
          have tq2 : y4.take (q + 1) = y4.take q ++ [y4[q]] := (List.take_append_getElem hqt2).symm
          have hneq : x4[q] ≠ y4[q] → res = false := fun h => Hne.out fun e => h (by
            injection e with e1 e2; injection e2 with e2 e3; injection e3 with e3 e5; subst e5; rfl)
          obtain ⟨x, hx⟩ : ∃ x, x = x4[q] := ⟨_, rfl⟩
          obtain ⟨y, hy⟩ : ∃ x, x = y4[q] := ⟨_, rfl⟩
          rw [← hx] at u1 tq1 hneq
          rw [← hy] at v1 tq2 hneq
          have Tq1 := Lib.hid tq1
          have Tq2 := Lib.hid tq2
          have Hneq := Lib.hid hneq
          clear hx hy tq1 tq2 hneq u0 v0
          by_cases exy : x = y
          · have hd : (x != y) = false := by simpa using exy
            have Exy := Lib.hid exy
            clear exy
            go_wp2_with fail
            go_quiet (fail)
            go_wp2_with fail
            go_roundw
            case rel => exact ⟨q + 1, by omega, by go_num, Lib.hid (by rw [Tq1.out, Tq2.out, Hqe.out, Exy.out]), Lib.hid (Below.drewN' Hbq.out nq)⟩
            case measure => simp [intOf]; omega
          · have hd : (x != y) = true := by simpa using exy
            have : res = false := Hneq.out exy
            subst this
            clear exy
            go_wp2_with fail
            go_quiet (fail)
            go_wp2_with fail
            go_ret
            exact ⟨rfl, Below.drewN' Hbw.out nq⟩
        · have hqi : ¬ ((q : Int) < (x4.length : Int)) := by omega
          have hk := Hqe.out
          obtain ⟨g1, g2, g3, g4⟩ := E.out
          rw [List.take_of_length_le (by omega), List.take_of_length_le (by omega)] at hk
          have hxy : ((x1, x2, x3, x4) : Sc.Step) = (y1, y2, y3, y4) := by rw [g1, g2, g3, hk]
          have Hxy := Lib.hid hxy
          clear hk g1 g2 g3 g4 hxy
          go_wp2_with fail
          go_roundw
          case rel => exact ⟨j + 1, by omega, by go_num, Lib.hid (by rw [Ht1.out, Ht2.out, Heq.out, Hxy.out]), Hbw⟩
          case measure => simp [intOf]; omega
    · have hji : ¬ ((j : Int) < (L1.length : Int)) := by omega
      have he := Heq.out
      rw [List.take_of_length_le (by omega), List.take_of_length_le (by rw [← Hl.out]; omega)] at he
      have : res = true := by rw [Hres.out]; exact decide_eq_true he
      subst this
      clear he
      go_wp2_with fail
      go_ret
      exact ⟨rfl, Hb.out⟩
end Go.Proofs.YtdpopdgeipgheaaDoor

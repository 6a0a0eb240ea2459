
/-
  The law's own lists, its bounds; the document's comparison of scripts; the document's example in plain.
-/
import Derived.Test.YtdpopdgeipgheaaDoorScrL
namespace Go.Proofs.YtdpopdgeipgheaaDoor
open Go.RowKit
set_option linter.unusedVariables false

set_option maxRecDepth 100000 in
set_option maxHeartbeats 3200000 in
theorem law14_list (B : Nat) (aL : Option Addr) (cL : Nat) (L : List Sc.Step) (w : World) (hB : w.heap.size = B) (hLs : Sl EStp (fun _ => True) w aL L) (hLc : L.length ≤ cL) (hln : L.length ≤ 30000) :
    Calls Tryd.prog 13 #[.slice aL L.length cL] w fun e w' => ∃ a c, e = .returned (.slice a L.length c) ∧ L.length ≤ c ∧ c ≤ maxLen ∧ Sl EStp (fun _ => True) w' a L ∧ Below B w w' := by
  have hL0 : Sl EStp (fun b => b < B) w aL L := hLs.mono (by decide) fun q _ hq => ⟨rfl, by omega⟩
  obtain ⟨w1, hw1⟩ : ∃ x, x = w.alloc (.cells #[] 72) := ⟨_, rfl⟩
  have hb1 : Below B w w1 := by subst hw1; subst hB; exact (Below.refl _ _).alloc (Nat.le_refl _) _
  have ho1 : Own (EOk (fun b => b < B) EStp) 72 B w1 (.slice (some ⟨B, 0, none⟩) 0 0) [] := by subst hw1; subst hB; exact own_empty (EOk (fun b => b < w.heap.size) EStp) 72 w (show 0 < EStp.sz by decide)
  have hex1 := hw1.symm
  have HB := Lib.hid hB
  have HL := Lib.hid hL0
  have Hb1 := Lib.hid hb1
  have Ho1 := Lib.hid ho1
  clear hw1 hb1 ho1 hL0 hLs
  go_enter Tryd.func13, Tryd.ntmps13
  go_upto_region 2 with fail
  clear hex1 hB
  go_wp2_with fail
  go_loopw [3, 9] (fun t i wr => ∃ (j : Nat) (a : Option Addr) (c : Nat), j ≤ L.length ∧ i = .int .i64 j ∧ t = .slice a j c ∧ RowKit.Hid (Own (EOk (fun b => b < B) EStp) 72 B wr (.slice a j c) (L.take j)) ∧ RowKit.Hid (Below B w wr)) (fun _ i _ => L.length - (intOf i).toNat)
  case atStart => exact ⟨0, _, _, Nat.zero_le _, rfl, rfl, Ho1, Hb1⟩
  case round =>
    obtain ⟨j, a, c, hj, rfl, rfl, Ho, Hb⟩ := hrel
    have hBr : B ≤ wr.heap.size := by have := Hb.out.size; rw [HB.out] at this; exact this
    by_cases hlt : j < L.length
    · have hji : (j : Int) < (L.length : Int) := by omega
      obtain ⟨b1, o1, aK, cK, rfl, _, p0, p1, p2, p3, i0, i1, i2, hcK, hmK, hsK⟩ := sl_stp HL.out j hlt
      have htk : L.take (j + 1) = L.take j ++ [L[j]] := (List.take_append_getElem hlt).symm
      have kw : ∀ {o : Nat} {u : Value}, w.cell? ⟨b1, o, none⟩ = some u → wr.cell? ⟨b1, o, none⟩ = some u := fun h => cell_thru h (by rw [HB.out]; exact Hb.out)
      have q0 := kw p0
      have q1 := kw p1
      have q2 := kw p2
      have q3 := kw p3
      clear kw p0 p1 p2 p3
      obtain ⟨x, hx⟩ : ∃ x, x = L[j] := ⟨_, rfl⟩
      rw [← hx] at q0 q1 q2 q3 i0 i1 i2 hcK hsK htk
      clear hx
      obtain ⟨x1, x2, x3, x4⟩ := x
      dsimp only at q0 q1 q2 q3 i0 i1 i2 hcK hsK
      obtain ⟨w7, hw7⟩ : ∃ x, x = wr.alloc (.cells #[.int .i64 x1, .int .i64 x2, .int .i64 x3, .slice aK x4.length cK] 58) := ⟨_, rfl⟩
      have hb7 : Below wr.heap.size wr w7 := by subst hw7; exact (Below.refl _ _).alloc (Nat.le_refl _) _
      have hh7 : w7.heap[wr.heap.size]? = some (.cells #[.int .i64 x1, .int .i64 x2, .int .i64 x3, .slice aK x4.length cK] 58 (0, 0)) := by subst hw7; exact heap_alloc_new wr _
      obtain ⟨s0, hs0⟩ : ∃ s, s = wr.heap.size := ⟨_, rfl⟩
      rw [← hs0] at hh7
      have z0 : w7.cell? ⟨s0, 0, none⟩ = some (.int .i64 x1) := by simp [World.cell?, hh7]
      have z1 : w7.cell? ⟨s0, 1, none⟩ = some (.int .i64 x2) := by simp [World.cell?, hh7]
      have z2 : w7.cell? ⟨s0, 2, none⟩ = some (.int .i64 x3) := by simp [World.cell?, hh7]
      have z3 : w7.cell? ⟨s0, 3, none⟩ = some (.slice aK x4.length cK) := by simp [World.cell?, hh7]
      have hlen : (L.take j).length = j := by rw [List.length_take]; omega
      have hn7 : w7.heap.size = s0 + 1 := by subst hw7; simp [hs0]
      have hBs0 : B ≤ w7.heap.size := by omega
      have hb8 : Below w7.heap.size w7 (w7.alloc (.cells #[.int .i64 x1, .int .i64 x2, .int .i64 x3, .slice aK x4.length cK] 72)) := (Below.refl _ _).alloc (Nat.le_refl _) _
      have ho7 := (Ho.out.below hb7).below hb8
      have hbw7 : Below B w (w7.alloc (.cells #[.int .i64 x1, .int .i64 x2, .int .i64 x3, .slice aK x4.length cK] 72)) := (Hb.out.trans (hb7.mono hBr)).trans (hb8.mono (by omega))
      have hsl : Sl (EOk (fun b => b < B) EStp) (fun b => some b ≠ (Value.slice a j c).ownBlock) (w7.alloc (.cells #[.int .i64 x1, .int .i64 x2, .int .i64 x3, .slice aK x4.length cK] 72)) (some ⟨w7.heap.size, 0, none⟩) [(x1, x2, x3, x4)] := by
        have hlt' := fun q (e : (Value.slice a j c).ownBlock = some q) => Ho.out.lt q e
        refine sl_one (heap_alloc_new w7 _) ⟨[.int .i64 x1], _, rfl, ⟨rfl, i0⟩, [.int .i64 x2], _, rfl, ⟨rfl, i1⟩, [.int .i64 x3], [.slice aK x4.length cK], rfl, ⟨rfl, i2⟩, aK, cK, rfl, hcK, hmK, ?_⟩ (fun e => by have := (hlt' _ e.symm).2; omega)
        exact hsK.mono (by decide) fun q hq hl => ⟨hbw7.block q hq, fun e => by have := (hlt' _ e.symm).1; omega, hq⟩
      have Hit := Lib.hid (And.intro ho7 hsl)
      have Hlen := Lib.hid hlen
      have Htk := Lib.hid htk
      have Hbw7 := Lib.hid hbw7
      have Hs0 := Lib.hid hs0
      clear hh7 htk hlen hb8 ho7 hbw7 hsl i0 i1 i2 hcK hmK hsK hb7 hn7
      go_upto_region 5 with fail
      rw [← hw7]
      rw [← hs0]
      clear hw7 hs0 q0 q1 q2 q3
      go_wp2_with (first
        | (refine wpList_app (EOk (fun b => b < B) EStp) rfl rfl (by rfl) (by rfl) ti_rstps Hit.out.1 rfl Hit.out.2 (by rw [Hlen.out]; unfold maxLen; simp; omega) (by rw [Hlen.out]; simp; omega) (by simp; omega) ?_
           intro v11 w11 ho11 hg11 hv11 hb11))
      obtain ⟨a11, c11, rfl, hc11, hm11, hr11, ho11'⟩ := ho11.shape (j + 1) (by simp [Hlen.out])
      have Ho11 := Lib.hid ho11'
      have Hb11 := Lib.hid (Hbw7.out.trans hb11)
      clear ho11 hg11 hv11 hb11 hr11 ho11'
      go_roundw
      case rel => exact ⟨j + 1, a11, c11, by omega, by go_num, rfl, by rw [Htk.out]; exact Ho11, Hb11⟩
      case measure => simp [intOf]; omega
    · have hji : ¬ ((j : Int) < (L.length : Int)) := by omega
      have htk : L.take j = L := List.take_of_length_le (by omega)
      have hjl : j = L.length := by omega
      have ho := Ho.out
      rw [htk] at ho
      obtain ⟨_, _, ec, hc, hm, _, ho'⟩ := ho.shape j hjl
      injection ec with ec1 ec2 ec3
      subst ec1
      subst ec3
      have hsl := ho'.sl_ok.any (by decide)
      have Hsl := Lib.hid hsl
      have Hjl := Lib.hid hjl
      clear htk ho ho' hsl hjl
      go_wp2_with fail
      go_ret
      exact ⟨a, c, by rw [← Hjl.out]; rfl, by rw [← Hjl.out]; exact hc, hm, Hsl.out, Hb.out⟩

namespace Sc
/-- too much to be looked at -/
def isBig (L : List Step) : Prop := 200 < L.length ∨ ∃ s ∈ L, 50 < s.2.2.2.length
theorem small_of {L : List Step} (h : ¬ isBig L) : L.length ≤ 200 ∧ ∀ s ∈ L, s.2.2.2.length ≤ 50 :=
  ⟨Nat.le_of_not_lt fun h' => h (.inl h'), fun s hs => Nat.le_of_not_lt fun h' => h (.inr ⟨s, hs, h'⟩)⟩
end Sc
open Classical in
set_option maxRecDepth 100000 in
set_option maxHeartbeats 1600000 in
theorem law14_big (aL : Option Addr) (cL : Nat) (L : List Sc.Step) (w : World) (hLs : Sl EStp (fun _ => True) w aL L) (hLc : L.length ≤ cL) :
    Calls Tryd.prog 8 #[.slice aL L.length cL] w fun e w' => e = .returned (.bool (decide (Sc.isBig L))) ∧ Below w.heap.size w w' := by
  obtain ⟨res, hres⟩ : ∃ x : Bool, x = decide (Sc.isBig L) := ⟨_, rfl⟩
  rw [← hres]
  have Hres := Lib.hid hres
  have HL := Lib.hid hLs
  clear hres hLs
  go_enter Tryd.func8, Tryd.ntmps8
  by_cases h2 : 200 < L.length
  · have h2' : 200 < (L.length : Int) := by omega
    have : res = true := by rw [Hres.out]; exact decide_eq_true (.inl h2)
    subst this
    go_wp2_with fail
    go_ret
    exact ⟨rfl, Below.refl _ _⟩
  have h2' : ¬ (200 < (L.length : Int)) := by omega
  have H2 := Lib.hid h2
  clear h2
  go_wp2_with fail
  go_loopw [10] (fun i wr => ∃ (j : Nat), j ≤ L.length ∧ i = .int .i64 j ∧ RowKit.Hid (∀ s ∈ L.take j, s.2.2.2.length ≤ 50) ∧ RowKit.Hid (Below w.heap.size w wr)) (fun i _ => L.length - (intOf i).toNat)
  case atStart => exact ⟨0, Nat.zero_le _, rfl, Lib.hid (by simp), Lib.hid (Below.refl _ _)⟩
  case round =>
    obtain ⟨j, hj, rfl, Hall, Hb⟩ := hrel
    have hBr : w.heap.size ≤ wr.heap.size := Hb.out.size
    by_cases hlt : j < L.length
    · have hji : (j : Int) < (L.length : Int) := by omega
      obtain ⟨b1, o1, aK, cK, rfl, _, p0, p1, p2, p3, i0, i1, i2, hcK, hmK, hsK⟩ := sl_stp HL.out j hlt
      have htk : L.take (j + 1) = L.take j ++ [L[j]] := (List.take_append_getElem hlt).symm
      have hmem : L[j] ∈ L := List.getElem_mem hlt
      have q0 := cell_thru p0 Hb.out
      have q1 := cell_thru p1 Hb.out
      have q2 := cell_thru p2 Hb.out
      have q3 := cell_thru p3 Hb.out
      clear p0 p1 p2 p3 hsK
      obtain ⟨x, hx⟩ : ∃ x, x = L[j] := ⟨_, rfl⟩
      rw [← hx] at q0 q1 q2 q3 i0 i1 i2 hcK htk hmem
      clear hx
      obtain ⟨x1, x2, x3, x4⟩ := x
      dsimp only at q0 q1 q2 q3 i0 i1 i2 hcK
      have hbF : Below w.heap.size w (wr.alloc (.cells #[.int .i64 x1, .int .i64 x2, .int .i64 x3, .slice aK x4.length cK] 58)) := Hb.out.alloc hBr _
      have HbF := Lib.hid hbF
      have Htk := Lib.hid htk
      have Hmem := Lib.hid hmem
      clear hbF htk hmem
      by_cases h5 : 50 < x4.length
      · have h5' : 50 < (x4.length : Int) := by omega
        have : res = true := by rw [Hres.out]; exact decide_eq_true (.inr ⟨_, Hmem.out, h5⟩)
        subst this
        clear h5
        go_wp2_with fail
        go_ret
        exact ⟨rfl, HbF.out⟩
      · have h5' : ¬ (50 < (x4.length : Int)) := by omega
        have H5 := Lib.hid h5
        clear h5
        go_wp2_with fail
        go_roundw
        case rel =>
          refine ⟨j + 1, by omega, by go_num, Lib.hid ?_, HbF⟩
          rw [Htk.out]
          intro s hs
          rcases List.mem_append.1 hs with h | h
          · exact Hall.out s h
          · rw [List.mem_singleton.1 h]; have := H5.out; show x4.length ≤ 50; omega
        case measure => simp [intOf]; omega
    · have hji : ¬ ((j : Int) < (L.length : Int)) := by omega
      have htk : L.take j = L := List.take_of_length_le (by omega)
      have hall := Hall.out
      rw [htk] at hall
      have : res = false := by
        rw [Hres.out]; refine decide_eq_false ?_
        rintro (h | ⟨s, hs, h⟩)
        · exact H2.out h
        · have := hall s hs; omega
      subst this
      clear hall htk
      go_wp2_with fail
      go_ret
      exact ⟨rfl, Hb.out⟩

theorem Below.drewN' {B : Nat} {a w : World} (h : Below B a w) (n : Nat) : Below B a (w.drewN n) := h.trans ⟨rfl, rfl, rfl, Nat.le_refl _, fun _ _ => rfl⟩
set_option maxRecDepth 100000 in
set_option maxHeartbeats 6400000 in
theorem ref14_Same (a1 a2 : Option Addr) (c1 c2 : Nat) (L1 L2 : List Sc.Step) (w : World) (h1 : Sl EStp (fun _ => True) w a1 L1) (h2 : Sl EStp (fun _ => True) w a2 L2) (hc1 : L1.length ≤ c1) (hc2 : L2.length ≤ c2) (hcm : c1 ≤ maxLen) :
    Calls Tryd.prog 18 #[.slice a1 L1.length c1, .slice a2 L2.length c2] w fun e w' => e = .returned (.bool (decide (L1 = L2))) ∧ Below w.heap.size w w' := by
  obtain ⟨res, hres⟩ : ∃ x : Bool, x = decide (L1 = L2) := ⟨_, rfl⟩
  rw [← hres]
  have Hres := Lib.hid hres
  have H1 := Lib.hid h1
  have H2 := Lib.hid h2
  clear hres h1 h2
  have hL1n : L1.length ≤ 9223372036854775807 := by unfold maxLen at hcm; omega
  go_enter Tryd.func18, Tryd.ntmps18
  by_cases hl : L1.length = L2.length
  case neg =>
    have hl' : ((L1.length : Int) != (L2.length : Int)) = true := by simp; omega
    have : res = false := by rw [Hres.out]; exact decide_eq_false fun e => hl (by rw [e])
    subst this
    clear hl
    go_wp2_with fail
    go_ret
    exact ⟨rfl, Below.refl _ _⟩
  have hl' : ((L1.length : Int) != (L2.length : Int)) = false := by simp; omega
  have Hl := Lib.hid hl
  clear hl
  go_wp2_with fail
  clear hl'
  go_loopw [14] (fun i wr => ∃ (j : Nat), j ≤ L1.length ∧ i = .int .i64 j ∧ RowKit.Hid (L1.take j = L2.take j) ∧ RowKit.Hid (Below w.heap.size w wr)) (fun i _ => L1.length - (intOf i).toNat)
  case atStart => exact ⟨0, Nat.zero_le _, rfl, Lib.hid rfl, Lib.hid (Below.refl _ _)⟩
  case round =>
    obtain ⟨j, hj, rfl, Heq, Hb⟩ := hrel
    by_cases hlt : j < L1.length
    · have hji : (j : Int) < (L1.length : Int) := by omega
      have hlt2 : j < L2.length := by rw [← Hl.out]; exact hlt
      have hji2 : (j : Int) < (L2.length : Int) := by omega
      obtain ⟨b1, o1, k1, d1, rfl, _, p0, p1, p2, p3, _, _, _, hd1, hm1, hs1⟩ := sl_stp H1.out j hlt
      obtain ⟨b2, o2, k2, d2, rfl, _, r0, r1, r2, r3, _, _, _, hd2, hm2, hs2⟩ := sl_stp H2.out j hlt2
      have ht1 : L1.take (j + 1) = L1.take j ++ [L1[j]] := (List.take_append_getElem hlt).symm
      have ht2 : L2.take (j + 1) = L2.take j ++ [L2[j]] := (List.take_append_getElem hlt2).symm
      have hne : L1[j] ≠ L2[j] → res = false := fun h => by
        rw [Hres.out]; refine decide_eq_false fun e => h ?_
        subst e; rfl
      have p0 := cell_thru p0 Hb.out
      have p1 := cell_thru p1 Hb.out
      have p2 := cell_thru p2 Hb.out
      have p3 := cell_thru p3 Hb.out
      have r0 := cell_thru r0 Hb.out
      have r1 := cell_thru r1 Hb.out
      have r2 := cell_thru r2 Hb.out
      have r3 := cell_thru r3 Hb.out
      obtain ⟨x, hx⟩ : ∃ x, x = L1[j] := ⟨_, rfl⟩
      obtain ⟨y, hy⟩ : ∃ x, x = L2[j] := ⟨_, rfl⟩
      rw [← hx] at p0 p1 p2 p3 hd1 hs1 ht1 hne
      rw [← hy] at r0 r1 r2 r3 hd2 hs2 ht2 hne
      clear hx hy
      obtain ⟨x1, x2, x3, x4⟩ := x
      obtain ⟨y1, y2, y3, y4⟩ := y
      dsimp only at p0 p1 p2 p3 hd1 hs1 r0 r1 r2 r3 hd2 hs2
      have Hne := Lib.hid hne
      have Ht1 := Lib.hid ht1
      have Ht2 := Lib.hid ht2
      have Hs1 := Lib.hid hs1
      have Hs2 := Lib.hid hs2
      clear hne ht1 ht2 hs1 hs2
      by_cases e1 : x1 = y1
      case neg =>
        have : res = false := Hne.out fun e => e1 (by injection e)
        subst this
        have hd : (x1 != y1) = true := by simpa using e1
        clear e1
        go_wp2_with fail
        go_quiet (fail)
        go_wp2_with fail
        go_ret
        exact ⟨rfl, Below.drewN' Hb.out nq⟩
      have he1 : (x1 != y1) = false := by simpa using e1
      by_cases e2 : x2 = y2
      case neg =>
        have : res = false := Hne.out fun e => e2 (by injection e with _ e2; injection e2)
        subst this
        have hd : (x2 != y2) = true := by simpa using e2
        clear e2
        go_wp2_with fail
        go_quiet (fail)
        go_wp2_with fail
        go_ret
        exact ⟨rfl, Below.drewN' Hb.out nq⟩
      have he2 : (x2 != y2) = false := by simpa using e2
      by_cases e3 : x3 = y3
      case neg =>
        have : res = false := Hne.out fun e => e3 (by injection e with _ e2; injection e2 with _ e3; injection e3)
        subst this
        have hd : (x3 != y3) = true := by simpa using e3
        clear e3
        go_wp2_with fail
        go_quiet (fail)
        go_wp2_with fail
        go_ret
        exact ⟨rfl, Below.drewN' Hb.out nq⟩
      have he3 : (x3 != y3) = false := by simpa using e3
      by_cases e4 : x4.length = y4.length
      case neg =>
        have : res = false := Hne.out fun e => e4 (by injection e with e1 e2; injection e2 with e2 e3; injection e3 with e3 e5; rw [e5])
        subst this
        have hd : ((x4.length : Int) != (y4.length : Int)) = true := by simp; omega
        clear e4 e1 e2 e3
        go_wp2_with fail
        go_quiet (fail)
        go_wp2_with fail
        go_ret
        exact ⟨rfl, Below.drewN' Hb.out nq⟩
      have he4 : ((x4.length : Int) != (y4.length : Int)) = false := by simp; omega
      have hx4 : x4.length ≤ 9223372036854775807 := by unfold maxLen at hm1; omega
      have E := Lib.hid (And.intro e1 (And.intro e2 (And.intro e3 e4)))
      clear e1 e2 e3 e4
      go_wp2_with fail
      go_quiet (fail)
      clear he1 he2 he3 he4
      have p3' : (wr.drewN nq).cell? ⟨b1, o1 + j * 4 + 3, none⟩ = some (.slice k1 x4.length d1) := p3
      go_wp2_with fail
      have Hb0 := Lib.hid (Below.drewN' Hb.out nq)
      obtain ⟨wq, hwq⟩ : ∃ z, z = wr.drewN nq := ⟨_, rfl⟩
      rw [← hwq] at Hb0 p3' ⊢
      have P3 := Lib.hid p3'
      have R3 := Lib.hid (show wq.cell? ⟨b2, o2 + j * 4 + 3, none⟩ = some (.slice k2 y4.length d2) by rw [hwq]; exact r3)
      clear p0 p1 p2 p3 r0 r1 r2 r3 p3' hwq Hb
      go_loopw [75] (fun i wr => ∃ (q : Nat), q ≤ x4.length ∧ i = .int .i64 q ∧ RowKit.Hid (x4.take q = y4.take q) ∧ RowKit.Hid (Below wq.heap.size wq wr)) (fun i _ => x4.length - (intOf i).toNat)
      case atStart => exact ⟨0, Nat.zero_le _, rfl, Lib.hid rfl, Lib.hid (Below.refl _ _)⟩
      case round =>
        obtain ⟨q, hq, rfl, Hqe, Hbq⟩ := hrel
        have Hbw := Lib.hid (Hb0.out.trans (Hbq.out.mono Hb0.out.size))
        by_cases hqt : q < x4.length
        · have hqi : (q : Int) < (x4.length : Int) := by omega
          have hqt2 : q < y4.length := by rw [← E.out.2.2.2]; exact hqt
          have hqi2 : (q : Int) < (y4.length : Int) := by omega
          obtain ⟨b3, o3, rfl, _, u0, _⟩ := sl_i Hs1.out q hqt
          obtain ⟨b4, o4, rfl, _, v0, _⟩ := sl_i Hs2.out q hqt2
          have u1 := cell_thru u0 Hbw.out
          have v1 := cell_thru v0 Hbw.out
          have p3 := cell_thru P3.out Hbq.out
          have r3 := cell_thru R3.out Hbq.out
          have tq1 : x4.take (q + 1) = x4.take q ++ [x4[q]] := (List.take_append_getElem hqt).symm
          have tq2 : y4.take (q + 1) = y4.take q ++ [y4[q]] := (List.take_append_getElem hqt2).symm
          have hneq : x4[q] ≠ y4[q] → res = false := fun h => Hne.out fun e => h (by
            injection e with e1 e2; injection e2 with e2 e3; injection e3 with e3 e5; subst e5; rfl)
          obtain ⟨x, hx⟩ : ∃ x, x = x4[q] := ⟨_, rfl⟩
          obtain ⟨y, hy⟩ : ∃ x, x = y4[q] := ⟨_, rfl⟩
          rw [← hx] at u1 tq1 hneq
          rw [← hy] at v1 tq2 hneq
          have Tq1 := Lib.hid tq1
          have Tq2 := Lib.hid tq2
          have Hneq := Lib.hid hneq
          clear hx hy tq1 tq2 hneq u0 v0
          by_cases exy : x = y
          · have hd : (x != y) = false := by simpa using exy
            have Exy := Lib.hid exy
            clear exy
            go_wp2_with fail
            go_quiet (fail)
            go_wp2_with fail
            go_roundw
            case rel => exact ⟨q + 1, by omega, by go_num, Lib.hid (by rw [Tq1.out, Tq2.out, Hqe.out, Exy.out]), Lib.hid (Below.drewN' Hbq.out nq)⟩
            case measure => simp [intOf]; omega
          · have hd : (x != y) = true := by simpa using exy
            have : res = false := Hneq.out exy
            subst this
            clear exy
            go_wp2_with fail
            go_quiet (fail)
            go_wp2_with fail
            go_ret
            exact ⟨rfl, Below.drewN' Hbw.out nq⟩
        · have hqi : ¬ ((q : Int) < (x4.length : Int)) := by omega
          have hk := Hqe.out
          obtain ⟨g1, g2, g3, g4⟩ := E.out
          rw [List.take_of_length_le (by omega), List.take_of_length_le (by omega)] at hk
          have hxy : ((x1, x2, x3, x4) : Sc.Step) = (y1, y2, y3, y4) := by rw [g1, g2, g3, hk]
          have Hxy := Lib.hid hxy
          clear hk g1 g2 g3 g4 hxy
          go_wp2_with fail
          go_roundw
          case rel => exact ⟨j + 1, by omega, by go_num, Lib.hid (by rw [Ht1.out, Ht2.out, Heq.out, Hxy.out]), Hbw⟩
          case measure => simp [intOf]; omega
    · have hji : ¬ ((j : Int) < (L1.length : Int)) := by omega
      have he := Heq.out
      rw [List.take_of_length_le (by omega), List.take_of_length_le (by rw [← Hl.out]; omega)] at he
      have : res = true := by rw [Hres.out]; exact decide_eq_true he
      subst this
      clear he
      go_wp2_with fail
      go_ret
      exact ⟨rfl, Hb.out⟩

namespace Sc
def small0 : Conf := ([3, 1, 1, 2, 0, 5, 0, 0, 0, 1, 1, 1, 0, 0, 0], 0#64)
def small1 : Conf := ([3, 1, 1, 2, 0, 5, 0, 0, 0, 1, 1, 1, 0, 0, 0], 18446744073709551615#64)
theorem small_chk (s : BitVec 64) : check ([3, 1, 1, 2, 0, 5, 0, 0, 0, 1, 1, 1, 0, 0, 0], s) = 0 := by
  have h1 : planOk ([3, 1, 1, 2, 0, 5, 0, 0, 0, 1, 1, 1, 0, 0, 0], s) := by show planR 1 1 1 0 0 0; decide
  have h2 : boundsOk ([3, 1, 1, 2, 0, 5, 0, 0, 0, 1, 1, 1, 0, 0, 0], s) := by
    intro i hi
    have e : i = 0 ∨ i = 1 ∨ i = 2 ∨ i = 3 ∨ i = 4 ∨ i = 5 ∨ i = 6 ∨ i = 7 ∨ i = 8 := by omega
    rcases e with rfl | rfl | rfl | rfl | rfl | rfl | rfl | rfl | rfl
    · show (1 : Int) ≤ 3 ∧ (3 : Int) ≤ 7; decide
    · show (1 : Int) ≤ 1 ∧ (1 : Int) ≤ 4; decide
    · show (1 : Int) ≤ 1 ∧ (1 : Int) ≤ 16; decide
    · show (1 : Int) ≤ 2 ∧ (2 : Int) ≤ 2; decide
    · show (0 : Int) ≤ 0 ∧ (0 : Int) ≤ 100; decide
    · show (1 : Int) ≤ 5 ∧ (5 : Int) ≤ 1000; decide
    · show (0 : Int) ≤ 0 ∧ (0 : Int) ≤ 4194304; decide
    · show (0 : Int) ≤ 0 ∧ (0 : Int) ≤ 1073741824; decide
    · show (0 : Int) ≤ 0 ∧ (0 : Int) ≤ 63; decide
  have h3 : ¬ 400 < 2 * cf ([3, 1, 1, 2, 0, 5, 0, 0, 0, 1, 1, 1, 0, 0, 0], s) 2 * cf ([3, 1, 1, 2, 0, 5, 0, 0, 0, 1, 1, 1, 0, 0, 0], s) 4 := by show ¬ 400 < 2 * (1 : Int) * 0; decide
  unfold check
  rw [if_pos h1, if_pos h2, if_neg h3]
theorem head_enc : encErr (small1, []) = 0 ∧ 9 < (encOut (small1, [])).length ∧ (allBits (small1, [])).length ≤ 1000000000 := by
  have h : encErr (small1, []) = 0 := by
    have := small_chk 18446744073709551615#64
    unfold encErr; rw [if_pos (show check (small1, ([] : List Step)).1 = 0 from this)]; rfl
  refine ⟨h, ?_, by decide +kernel⟩
  unfold encOut
  rw [if_pos h]
  decide +kernel
end Sc
set_option maxRecDepth 100000 in
theorem law14_small (w : World) : Calls Tryd.prog 10 #[] w fun e w' => e = .returned (.agg (confCells Sc.small0)) ∧ Below w.heap.size w w' := by
  go_enter Tryd.func10, Tryd.ntmps10
  go_wp2_with fail
  refine bodyPost_ret (v := .agg (confCells Sc.small0)) ?_ rfl ?_
  · exact results_cell_row (P := Tryd.prog) Tryd.results10 _ _ w.heap.size 26 (confCells Sc.small0) (0, 0) _ rfl (heap_alloc_new w _) Tryd.underlying26 rfl (conf_size _)
  · exact ⟨rfl, (Below.refl _ _).alloc (Nat.le_refl _) _⟩
end Go.Proofs.YtdpopdgeipgheaaDoor

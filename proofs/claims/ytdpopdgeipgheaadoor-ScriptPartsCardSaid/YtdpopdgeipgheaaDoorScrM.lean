
/-
  The law's own lists, its bounds, the document's comparison of scripts, the document's example.
-/
import Derived.Test.YtdpopdgeipgheaaDoorScrL
namespace Go.Proofs.YtdpopdgeipgheaaDoor
open Go.RowKit
set_option linter.unusedVariables false

set_option maxRecDepth 100000 in
set_option maxHeartbeats 3200000 in
theorem law14_list (B : Nat) (aL : Option Addr) (cL : Nat) (L : List Sc.Step) (w : World) (hB : w.heap.size = B) (hLs : Sl EStp (fun _ => True) w aL L) (hLc : L.length ≤ cL) (hln : L.length ≤ 30000) :
    Calls Tryd.prog 13 #[.slice aL L.length cL] w fun e w' => ∃ a c, e = .returned (.slice a L.length c) ∧ L.length ≤ c ∧ c ≤ maxLen ∧ Sl EStp (fun _ => True) w' a L ∧ Below B w w' := by
  have hL0 : Sl EStp (fun b => b < B) w aL L := hLs.mono (by decide) fun q _ hq => ⟨rfl, by omega⟩
  obtain ⟨w1, hw1⟩ : ∃ x, x = w.alloc (.cells #[] 72) := ⟨_, rfl⟩
  have hb1 : Below B w w1 := by subst hw1; subst hB; exact (Below.refl _ _).alloc (Nat.le_refl _) _
  have ho1 : Own (EOk (fun b => b < B) EStp) 72 B w1 (.slice (some ⟨B, 0, none⟩) 0 0) [] := by subst hw1; subst hB; exact own_empty (EOk (fun b => b < w.heap.size) EStp) 72 w (show 0 < EStp.sz by decide)
  have hex1 := hw1.symm
  have HB := Lib.hid hB
  have HL := Lib.hid hL0
  have Hb1 := Lib.hid hb1
  have Ho1 := Lib.hid ho1
  clear hw1 hb1 ho1 hL0 hLs
  go_enter Tryd.func13, Tryd.ntmps13
  go_upto_region 2 with fail
  clear hex1 hB
  go_wp2_with fail
  go_loopw [3, 9] (fun t i wr => ∃ (j : Nat) (a : Option Addr) (c : Nat), j ≤ L.length ∧ i = .int .i64 j ∧ t = .slice a j c ∧ RowKit.Hid (Own (EOk (fun b => b < B) EStp) 72 B wr (.slice a j c) (L.take j)) ∧ RowKit.Hid (Below B w wr)) (fun _ i _ => L.length - (intOf i).toNat)
  case atStart => exact ⟨0, _, _, Nat.zero_le _, rfl, rfl, Ho1, Hb1⟩
  case round =>
    obtain ⟨j, a, c, hj, rfl, rfl, Ho, Hb⟩ := hrel
    have hBr : B ≤ wr.heap.size := by have := Hb.out.size; rw [HB.out] at this; exact this
    by_cases hlt : j < L.length
    · have hji : (j : Int) < (L.length : Int) := by omega
      obtain ⟨b1, o1, aK, cK, rfl, _, p0, p1, p2, p3, i0, i1, i2, hcK, hmK, hsK⟩ := sl_stp HL.out j hlt
      have htk : L.take (j + 1) = L.take j ++ [L[j]] := (List.take_append_getElem hlt).symm
      have kw : ∀ {o : Nat} {u : Value}, w.cell? ⟨b1, o, none⟩ = some u → wr.cell? ⟨b1, o, none⟩ = some u := fun h => cell_thru h (by rw [HB.out]; exact Hb.out)
      have q0 := kw p0
      have q1 := kw p1
      have q2 := kw p2
      have q3 := kw p3
      clear kw p0 p1 p2 p3
      obtain ⟨x, hx⟩ : ∃ x, x = L[j] := ⟨_, rfl⟩
      rw [← hx] at q0 q1 q2 q3 i0 i1 i2 hcK hsK htk
      clear hx
      obtain ⟨x1, x2, x3, x4⟩ := x
      dsimp only at q0 q1 q2 q3 i0 i1 i2 hcK hsK
      obtain ⟨w7, hw7⟩ : ∃ x, x = wr.alloc (.cells #[.int .i64 x1, .int .i64 x2, .int .i64 x3, .slice aK x4.length cK] 58) := ⟨_, rfl⟩
      have hb7 : Below wr.heap.size wr w7 := by subst hw7; exact (Below.refl _ _).alloc (Nat.le_refl _) _
      have hh7 : w7.heap[wr.heap.size]? = some (.cells #[.int .i64 x1, .int .i64 x2, .int .i64 x3, .slice aK x4.length cK] 58 (0, 0)) := by subst hw7; exact heap_alloc_new wr _
      obtain ⟨s0, hs0⟩ : ∃ s, s = wr.heap.size := ⟨_, rfl⟩
      rw [← hs0] at hh7
      have z0 : w7.cell? ⟨s0, 0, none⟩ = some (.int .i64 x1) := by simp [World.cell?, hh7]
      have z1 : w7.cell? ⟨s0, 1, none⟩ = some (.int .i64 x2) := by simp [World.cell?, hh7]
      have z2 : w7.cell? ⟨s0, 2, none⟩ = some (.int .i64 x3) := by simp [World.cell?, hh7]
      have z3 : w7.cell? ⟨s0, 3, none⟩ = some (.slice aK x4.length cK) := by simp [World.cell?, hh7]
      have hlen : (L.take j).length = j := by rw [List.length_take]; omega
      have hn7 : w7.heap.size = s0 + 1 := by subst hw7; simp [hs0]
      have hBs0 : B ≤ w7.heap.size := by omega
      have hb8 : Below w7.heap.size w7 (w7.alloc (.cells #[.int .i64 x1, .int .i64 x2, .int .i64 x3, .slice aK x4.length cK] 72)) := (Below.refl _ _).alloc (Nat.le_refl _) _
      have ho7 := (Ho.out.below hb7).below hb8
      have hbw7 : Below B w (w7.alloc (.cells #[.int .i64 x1, .int .i64 x2, .int .i64 x3, .slice aK x4.length cK] 72)) := (Hb.out.trans (hb7.mono hBr)).trans (hb8.mono (by omega))
      have hsl : Sl (EOk (fun b => b < B) EStp) (fun b => some b ≠ (Value.slice a j c).ownBlock) (w7.alloc (.cells #[.int .i64 x1, .int .i64 x2, .int .i64 x3, .slice aK x4.length cK] 72)) (some ⟨w7.heap.size, 0, none⟩) [(x1, x2, x3, x4)] := by
        have hlt' := fun q (e : (Value.slice a j c).ownBlock = some q) => Ho.out.lt q e
        refine sl_one (heap_alloc_new w7 _) ⟨[.int .i64 x1], _, rfl, ⟨rfl, i0⟩, [.int .i64 x2], _, rfl, ⟨rfl, i1⟩, [.int .i64 x3], [.slice aK x4.length cK], rfl, ⟨rfl, i2⟩, aK, cK, rfl, hcK, hmK, ?_⟩ (fun e => by have := (hlt' _ e.symm).2; omega)
        exact hsK.mono (by decide) fun q hq hl => ⟨hbw7.block q hq, fun e => by have := (hlt' _ e.symm).1; omega, hq⟩
      have Hit := Lib.hid (And.intro ho7 hsl)
      have Hlen := Lib.hid hlen
      have Htk := Lib.hid htk
      have Hbw7 := Lib.hid hbw7
      have Hs0 := Lib.hid hs0
      clear hh7 htk hlen hb8 ho7 hbw7 hsl i0 i1 i2 hcK hmK hsK hb7 hn7
      go_upto_region 5 with fail
      rw [← hw7]
      rw [← hs0]
      clear hw7 hs0 q0 q1 q2 q3
      go_wp2_with (first
        | (refine wpList_app (EOk (fun b => b < B) EStp) rfl rfl (by rfl) (by rfl) ti_rstps Hit.out.1 rfl Hit.out.2 (by rw [Hlen.out]; unfold maxLen; simp; omega) (by rw [Hlen.out]; simp; omega) (by simp; omega) ?_
           intro v11 w11 ho11 hg11 hv11 hb11))
      obtain ⟨a11, c11, rfl, hc11, hm11, hr11, ho11'⟩ := ho11.shape (j + 1) (by simp [Hlen.out])
      have Ho11 := Lib.hid ho11'
      have Hb11 := Lib.hid (Hbw7.out.trans hb11)
      clear ho11 hg11 hv11 hb11 hr11 ho11'
      go_roundw
      case rel => exact ⟨j + 1, a11, c11, by omega, by go_num, rfl, by rw [Htk.out]; exact Ho11, Hb11⟩
      case measure => simp [intOf]; omega
    · have hji : ¬ ((j : Int) < (L.length : Int)) := by omega
      have htk : L.take j = L := List.take_of_length_le (by omega)
      have hjl : j = L.length := by omega
      have ho := Ho.out
      rw [htk] at ho
      obtain ⟨_, _, ec, hc, hm, _, ho'⟩ := ho.shape j hjl
      injection ec with ec1 ec2 ec3
      subst ec1
      subst ec3
      have hsl := ho'.sl_ok.any (by decide)
      have Hsl := Lib.hid hsl
      have Hjl := Lib.hid hjl
      clear htk ho ho' hsl hjl
      go_wp2_with fail
      go_ret
      exact ⟨a, c, by rw [← Hjl.out]; rfl, by rw [← Hjl.out]; exact hc, hm, Hsl.out, Hb.out⟩

namespace Sc
/-- too much to be looked at -/
def isBig (L : List Step) : Prop := 200 < L.length ∨ ∃ s ∈ L, 50 < s.2.2.2.length
theorem small_of {L : List Step} (h : ¬ isBig L) : L.length ≤ 200 ∧ ∀ s ∈ L, s.2.2.2.length ≤ 50 :=
  ⟨Nat.le_of_not_lt fun h' => h (.inl h'), fun s hs => Nat.le_of_not_lt fun h' => h (.inr ⟨s, hs, h'⟩)⟩
end Sc
open Classical in
set_option maxRecDepth 100000 in
set_option maxHeartbeats 1600000 in
theorem law14_big (aL : Option Addr) (cL : Nat) (L : List Sc.Step) (w : World) (hLs : Sl EStp (fun _ => True) w aL L) (hLc : L.length ≤ cL) :
    Calls Tryd.prog 8 #[.slice aL L.length cL] w fun e w' => e = .returned (.bool (decide (Sc.isBig L))) ∧ Below w.heap.size w w' := by
  obtain ⟨res, hres⟩ : ∃ x : Bool, x = decide (Sc.isBig L) := ⟨_, rfl⟩
  rw [← hres]
  have Hres := Lib.hid hres
  have HL := Lib.hid hLs
  clear hres hLs
  go_enter Tryd.func8, Tryd.ntmps8
  by_cases h2 : 200 < L.length
  · have h2' : 200 < (L.length : Int) := by omega
    have : res = true := by rw [Hres.out]; exact decide_eq_true (.inl h2)
    subst this
    go_wp2_with fail
    go_ret
    exact ⟨rfl, Below.refl _ _⟩
  have h2' : ¬ (200 < (L.length : Int)) := by omega
  have H2 := Lib.hid h2
  clear h2
  go_wp2_with fail
  go_loopw [10] (fun i wr => ∃ (j : Nat), j ≤ L.length ∧ i = .int .i64 j ∧ RowKit.Hid (∀ s ∈ L.take j, s.2.2.2.length ≤ 50) ∧ RowKit.Hid (Below w.heap.size w wr)) (fun i _ => L.length - (intOf i).toNat)
  case atStart => exact ⟨0, Nat.zero_le _, rfl, Lib.hid (by simp), Lib.hid (Below.refl _ _)⟩
  case round =>
    obtain ⟨j, hj, rfl, Hall, Hb⟩ := hrel
    have hBr : w.heap.size ≤ wr.heap.size := Hb.out.size
    by_cases hlt : j < L.length
    · have hji : (j : Int) < (L.length : Int) := by omega
      obtain ⟨b1, o1, aK, cK, rfl, _, p0, p1, p2, p3, i0, i1, i2, hcK, hmK, hsK⟩ := sl_stp HL.out j hlt
      have htk : L.take (j + 1) = L.take j ++ [L[j]] := (List.take_append_getElem hlt).symm
      have hmem : L[j] ∈ L := List.getElem_mem hlt
      have q0 := cell_thru p0 Hb.out
      have q1 := cell_thru p1 Hb.out
      have q2 := cell_thru p2 Hb.out
      have q3 := cell_thru p3 Hb.out
      clear p0 p1 p2 p3 hsK
      obtain ⟨x, hx⟩ : ∃ x, x = L[j] := ⟨_, rfl⟩
      rw [← hx] at q0 q1 q2 q3 i0 i1 i2 hcK htk hmem
      clear hx
      obtain ⟨x1, x2, x3, x4⟩ := x
      dsimp only at q0 q1 q2 q3 i0 i1 i2 hcK
      have hbF : Below w.heap.size w (wr.alloc (.cells #[.int .i64 x1, .int .i64 x2, .int .i64 x3, .slice aK x4.length cK] 58)) := Hb.out.alloc hBr _
      have HbF := Lib.hid hbF
      have Htk := Lib.hid htk
      have Hmem := Lib.hid hmem
      clear hbF htk hmem
      by_cases h5 : 50 < x4.length
      · have h5' : 50 < (x4.length : Int) := by omega
        have : res = true := by rw [Hres.out]; exact decide_eq_true (.inr ⟨_, Hmem.out, h5⟩)
        subst this
        clear h5
        go_wp2_with fail
        go_ret
        exact ⟨rfl, HbF.out⟩
      · have h5' : ¬ (50 < (x4.length : Int)) := by omega
        have H5 := Lib.hid h5
        clear h5
        go_wp2_with fail
        go_roundw
        case rel =>
          refine ⟨j + 1, by omega, by go_num, Lib.hid ?_, HbF⟩
          rw [Htk.out]
          intro s hs
          rcases List.mem_append.1 hs with h | h
          · exact Hall.out s h
          · rw [List.mem_singleton.1 h]; have := H5.out; show x4.length ≤ 50; omega
        case measure => simp [intOf]; omega
    · have hji : ¬ ((j : Int) < (L.length : Int)) := by omega
      have htk : L.take j = L := List.take_of_length_le (by omega)
      have hall := Hall.out
      rw [htk] at hall
      have : res = false := by
        rw [Hres.out]; refine decide_eq_false ?_
        rintro (h | ⟨s, hs, h⟩)
        · exact H2.out h
        · have := hall s hs; omega
      subst this
      clear hall htk
      go_wp2_with fail
      go_ret
      exact ⟨rfl, Hb.out⟩
end Go.Proofs.YtdpopdgeipgheaaDoor

/-
  The law ViewGoes, walked.
-/
import Derived.Test.YtmmgnbdngpkfcaaVwLk
namespace Go.Proofs.Ytmmgnbdngpkfcaa
open Go.RowKit
set_option linter.unusedVariables false
set_option linter.unusedSimpArgs false

set_option maxRecDepth 100000 in
set_option maxHeartbeats 0 in
theorem law_ViewGoes0 (x0 x1 : Int) (d : BitVec 8) (a2 : Option Addr) (sn c2 : Nat) (ops : List (Int × Int × Int)) (w : World) (hs : Sl EOp3 (fun _ => True) w a2 ops) (hsn : sn = ops.length) (hc : sn ≤ c2) (hm : c2 ≤ maxLen) :
    Calls Try.prog 14 #[.int .i64 x0, .int .i64 x1, .slice a2 sn c2, .int .u8 (bv d)] w fun e w' => e = .returned (.bool true) ∧ Below w.heap.size w w' := by
  have HH := Lib.hid (law20_head w)
  obtain ⟨n, hn⟩ : ∃ n : Nat, n = (x0 % 1024 % 5 + 1).toNat := ⟨_, rfl⟩
  obtain ⟨pat, hpat⟩ : ∃ pat : Int, pat = x1 % 16 + 1 := ⟨_, rfl⟩
  have hn5 : 1 ≤ n ∧ n ≤ 5 := by omega
  have hp5 : 1 ≤ pat ∧ pat ≤ 16 := by omega
  have hand : bits .and .i64 x0 1023 = x0 % 1024 := bits_and1023 x0
  have hand2 : bits .and .i64 x1 15 = x1 % 16 := bits_and15 x1
  have hr0 : 0 ≤ x0 % 1024 := by omega
  have hmod : x0 % 1024 % 5 = (n : Int) - 1 := by omega
  obtain ⟨r, hr⟩ : ∃ r, r = x0 % 1024 := ⟨_, rfl⟩
  obtain ⟨s, hs1⟩ : ∃ s, s = x1 % 16 := ⟨_, rfl⟩
  rw [← hr] at hand hr0 hmod
  rw [← hs1] at hand2 hpat
  obtain ⟨n1, hn1⟩ : ∃ n1 : Nat, n = n1 + 1 := ⟨n - 1, by omega⟩
  have hmod1 : r % 5 = (n1 : Int) := by omega
  have htm : Int.tmod r 5 = (n1 : Int) := by rw [Int.tmod_eq_emod_of_nonneg hr0]; exact hmod1
  have hw0 : IntKind.i64.wrap (n1 : Int) = (n1 : Int) := IntWalk.i64_in _ (by omega)
  have hw2 : IntKind.i64.wrap (1 + (n1 : Int)) = (n : Int) := by rw [IntWalk.i64_in _ (by omega)]; omega
  have hw3 : IntKind.i64.wrap (1 + s) = pat := by rw [IntWalk.i64_in _ (by omega)]; omega
  have hst : ∀ W : World, Calls Try.prog 64 #[.int .i64 n, .int .i64 pat] W fun e w' => StTo W w' n pat e := fun W => vw_gstart n pat W hn5 ⟨hp5.1, by omega⟩
  have HSt := Lib.hid hst
  have Hs := Lib.hid hs
  have Hsn := Lib.hid hsn
  have Hn5 := Lib.hid (And.intro hn5 hp5)
  unfold maxLen at hm
  clear hn hpat hr hs1 hst hs hsn hmod hn1 hn5 hp5
  refine calls_of_wp Try.func14 goBody_is ?_
  simp only [Try.ntmps14, List.size_toArray, List.length_cons, List.length_nil, Nat.reduceAdd, Nat.reduceSub, Array.replicate_succ,
     Array.replicate_zero, List.push_toArray, List.append_toArray, List.nil_append, List.cons_append]
  rw [goBody_eq]
  refine wp_seq ?_
  conv => arg 2; whnf
  go_wp2_with fail
  conv => arg 2; whnf
  go_wp2_with fail
  refine HH.out.mono ?_
  rintro e w1 ⟨rfl, hb1⟩
  have Hb1 := Lib.hid hb1
  clear hb1 HH
  go_wp2_with fail
  conv => arg 2; whnf
  go_wp2_with fail
  refine (HSt.out _).mono ?_
  rintro e w2 ⟨gg, C0, L0, rfl, hM, hK⟩
  have M2 := Lib.hid hM
  have K2 := Lib.hid hK
  clear hM hK HSt hand hand2 hr0 hmod1 htm hw0 hw2 hw3
  go_wp2_with fail
  conv => arg 2; whnf
  go_wp2_with fail
  go_loopg [10] sn (fun gn v wr => ∃ (j : Nat) (C : Col) (L : GrL) (x : Vw.Gr), RowKit.Hid (gn = sn - j) ∧ j ≤ sn ∧ j ≤ 250 ∧ v = .int .i64 j ∧ RowKit.Hid (GrM C wr gg (toGx x) L) ∧ RowKit.Hid (KpA (fun _ => 0) w1 C wr) ∧ RowKit.Hid (Vw.GrI x j ∧ Vw.BdG j j x ∧ (x.n = 1 → (x.core 1).ch = false) ∧ x.n = n ∧ x.pat = pat))
  case atStart => exact ⟨0, C0, L0, _, Lib.hid rfl, Nat.zero_le _, Nat.zero_le _, rfl, M2, K2, Lib.hid ⟨Vw.GrI.start n pat Hn5.out.1 ⟨Hn5.out.2.1, by have := Hn5.out.2.2; omega⟩, Vw.BdG.init n pat, fun _ => rfl, rfl, rfl⟩⟩
  case round =>
    obtain ⟨j, C, L, x, hgn, hj, hj4, rfl, hM, hK, hI⟩ := hrel
    by_cases hgo : j < sn ∧ j < 250
    · obtain ⟨hg1, hg2⟩ := hgo
      have hlti : (j : Int) < (sn : Int) := by omega
      have hlt4 : (j : Int) < 250 := by omega
      have hd1 : decide ((j : Int) < (sn : Int)) = true := by simp; omega
      have hd2 : decide ((j : Int) < 250) = true := by simp; omega
      have hadd : IntKind.i64.wrap ((j : Int) + 1) = (j : Int) + 1 := IntWalk.i64_in _ (by omega)
      obtain ⟨y, hy⟩ : ∃ y, ops[j]? = some y := ⟨_, List.getElem?_eq_getElem (by have := Hsn.out; omega)⟩
      have hsr : Sl EOp3 (fun _ => True) wr a2 ops := by
        intro k z hz
        obtain ⟨b, o, e, hb, cs, hrep, hcs⟩ := Hs.out k z hz
        refine ⟨b, o, e, trivial, cs, EOp3.mono (ok' := fun _ => True) hrep fun b hb hlt => ⟨?_, trivial⟩, fun i v hv => ?_⟩
        · have h2 := (Hb1.out.trans (hK.out.belowAll.mono Hb1.out.size)).block b hlt
          exact h2
        · exact cell_thru (hcs i v hv) (Hb1.out.trans (hK.out.belowAll.mono Hb1.out.size))
      obtain ⟨b, o, rfl, -, c0, c1, c2'⟩ := op3_at hsr hy
      have HStep := Lib.hid (vw_gstep gg y.1 y.2.1 y.2.2 x j C L wr hM.out hI.out.1 (by omega))
      have HI2 : RowKit.Hid (Vw.GrI (Vw.grStep x y.1 y.2.1 y.2.2) (j + 1) ∧ Vw.BdG (j + 1 : Nat) (j + 1) (Vw.grStep x y.1 y.2.1 y.2.2) ∧ ((Vw.grStep x y.1 y.2.1 y.2.2).n = 1 → ((Vw.grStep x y.1 y.2.1 y.2.2).core 1).ch = false) ∧ (Vw.grStep x y.1 y.2.1 y.2.2).n = n ∧ (Vw.grStep x y.1 y.2.1 y.2.2).pat = pat) := Lib.hid (by
        obtain ⟨i1, i2, i3, i4, i5⟩ := hI.out
        obtain ⟨e1, e2⟩ := Vw.grStep_n x y.1 y.2.1 y.2.2
        refine ⟨Vw.grStep_ok i1 (by omega) hM.out.rights _ _ _, ?_, fun e => ?_, e1.trans i4, e2.trans i5⟩
        · have := i2.step i1 y.1 y.2.1 y.2.2
          exact this
        · rw [e1] at e
          exact Vw.one_step i1 e (i3 e) _ _ _)
      clear hy hsr hI hM
      go_wp2_with fail
      refine HStep.out.mono ?_
      rintro e w3 ⟨rfl, C3, L3, m3, k3⟩
      have q7 := m3.c7
      have M3 := Lib.hid m3
      have K3 := Lib.hid (hK.out.trans k3)
      clear m3 k3 HStep c0 c1 c2' hK
      go_wp2_with fail
      go_roundg (sn - (j + 1))
      case measure => rw [hgn.out]; omega
      case rel => exact ⟨j + 1, C3, L3, _, Lib.hid rfl, by omega, by omega, by go_num, M3, K3, HI2⟩
    · -- the calm
      have hgo2 : RowKit.Hid (¬ (j : Int) < (sn : Int) ∨ ((j : Int) < (sn : Int) ∧ ¬ (j : Int) < 250)) := Lib.hid (by omega)
      have Hcalm := Lib.hid (And.intro hj4 Hn5.out)
      clear hgo hj hj4 hgn
      rcases hgo2.out with hg1 | ⟨hg1, hg2⟩
      · have hd1 : decide ((j : Int) < (sn : Int)) = false := by simpa using hg1
        go_wp2_with fail
        exact vw_goCalm w w1 gg n j pat d x C L wr hM hK hI Hcalm Hb1
      · have hd1 : decide ((j : Int) < (sn : Int)) = true := by simpa using hg1
        have hd2 : decide ((j : Int) < 250) = false := by simpa using hg2
        go_wp2_with fail
        exact vw_goCalm w w1 gg n j pat d x C L wr hM hK hI Hcalm Hb1
theorem law_ViewGoes (x0 x1 : Int) (a2 : Option Addr) (c2 : Nat) (ops : List (Int × Int × Int)) (d : BitVec 8) (w : World) (h0 : -9223372036854775808 ≤ x0 ∧ x0 ≤ 9223372036854775807) (h1 : -9223372036854775808 ≤ x1 ∧ x1 ≤ 9223372036854775807) (hs : Sl EOp3 (fun _ => True) w a2 ops) (hc : ops.length ≤ c2) (hm : c2 ≤ maxLen) :
    Calls Try.prog 14 #[.int .i64 x0, .int .i64 x1, .slice a2 ops.length c2, .int .u8 (bv d)] w fun e w' => e = .returned (.bool true) ∧ Below w.heap.size w w' :=
  law_ViewGoes0 x0 x1 d a2 _ c2 ops w hs rfl hc hm
end Go.Proofs.Ytmmgnbdngpkfcaa

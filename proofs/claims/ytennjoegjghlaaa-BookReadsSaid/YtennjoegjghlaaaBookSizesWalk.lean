
/-
  The walk of the law 'BookSizes'.
-/
import Derived.Test.YtennjoegjghlaaaBookHead
import Derived.Test.YtennjoegjghlaaaHistW
namespace Go.Proofs.Ytennjoegjghlaaa
open Go.RowKit
set_option linter.unusedVariables false

namespace Bk
theorem encErr_ok {l : List Ev} (h : encErr l = 0) : l.length ≤ 400 ∧ ∀ e ∈ l, evOk e := by
  unfold encErr at h
  split at h
  · cases h
  · split at h
    · exact ⟨by omega, ‹_›⟩
    · cases h
theorem encOut_len (l : List Ev) : (encOut l).length ≤ 1000000 := by
  unfold encOut
  split
  · rename_i h
    obtain ⟨h1, h2⟩ := encErr_ok h
    have := evsBits_len l fun e he => (h2 e he).1.2.2.2.2
    obtain ⟨z, h3, hz⟩ := Bts.num_len (BitVec.ofInt 64 l.length)
    have h4 : l.length * 1618 ≤ 400 * 1618 := Nat.mul_le_mul_right _ h1
    rw [Bts.pack_len, esBits, List.length_append]
    omega
  · simp
theorem encErr_app {l m : List Ev} (h1 : encErr l = 0) (h2 : encErr m = 0) : encErr (l ++ m) = if 400 < l.length + m.length then 4 else 0 := by
  obtain ⟨a1, a2⟩ := encErr_ok h1
  obtain ⟨b1, b2⟩ := encErr_ok h2
  unfold encErr
  rw [List.length_append]
  split
  · rfl
  · rw [if_pos]
    intro e he
    rcases List.mem_append.1 he with he | he
    · exact a2 e he
    · exact b2 e he
theorem encOut_same {l m : List Ev} (h1 : encErr l = 0) (h2 : encErr m = 0) : (encOut l == encOut m) = (l == m) := by
  obtain ⟨a1, a2⟩ := encErr_ok h1
  obtain ⟨b1, b2⟩ := encErr_ok h2
  rw [Bool.eq_iff_iff, beq_iff_eq, beq_iff_eq]
  unfold encOut
  rw [if_pos h1, if_pos h2]
  exact ⟨fun h => pack_inj l m a1 b1 a2 b2 h, fun h => by rw [h]⟩
theorem encOut_app {l m : List Ev} (h1 : encErr l = 0) (h2 : encErr m = 0) (h : l.length + m.length ≤ 400) : (encOut l).length ≤ (encOut (l ++ m)).length ∧ (encOut m).length ≤ (encOut (l ++ m)).length := by
  have h3 : encErr (l ++ m) = 0 := by rw [encErr_app h1 h2, if_neg (by omega)]
  unfold encOut
  rw [if_pos h1, if_pos h2, if_pos h3]
  obtain ⟨e1, e2⟩ := esBits_app l m h
  exact ⟨pack_mono e1, pack_mono e2⟩
theorem big_not {l : List Ev} (h : ¬ big l) : l.length ≤ 500 ∧ ∀ e ∈ l, e.2.2.length ≤ 30 :=
  ⟨Nat.le_of_not_lt fun h2 => h (.inl h2), fun e he => Nat.le_of_not_lt fun h2 => h (.inr ⟨e, he, h2⟩)⟩
end Bk

set_option maxRecDepth 4096 in
set_option maxHeartbeats 3200000 in
theorem law_BookSizes (a1 : Option Addr) (c1 : Nat) (l : List Bk.Ev) (a2 : Option Addr) (c2 : Nat) (m : List Bk.Ev) (w : World) (hs1 : Sl EEv (fun _ => True) w a1 l) (hc1 : l.length ≤ c1) (hm1 : c1 ≤ maxLen) (hs2 : Sl EEv (fun _ => True) w a2 m) (hc2 : m.length ≤ c2) (hm2 : c2 ≤ maxLen) :
    Calls Try.prog 3 #[.slice a1 l.length c1, .slice a2 m.length c2] w fun e w' => e = .returned (.bool true) ∧ Below w.heap.size w w' := by
  go_enter Try.func3, Try.ntmps3
  go_wp2_with fail
  refine (law6_head _).mono ?_
  rintro e w1 ⟨rfl, hb1⟩
  go_wp2_with fail
  refine (law6_big _ _ _ l _ ⟨rfl, hs1.below (by decide) hb1⟩).mono ?_
  rintro e w2 ⟨rfl, hb2⟩
  have hbw2 := hb1.trans (hb2.mono hb1.size)
  clear hb1 hb2
  by_cases g1 : Bk.big l
  · rw [decide_eq_true g1]
    go_wp2_with fail
    go_ret
    exact ⟨rfl, hbw2⟩
  rw [decide_eq_false g1]
  go_wp2_with fail
  refine (law6_big _ _ _ m _ ⟨rfl, hs2.below (by decide) hbw2⟩).mono ?_
  rintro e w3 ⟨rfl, hb3⟩
  have hbw3 := hbw2.trans (hb3.mono hbw2.size)
  clear hbw2 hb3
  by_cases g2 : Bk.big m
  · rw [decide_eq_true g2]
    go_wp2_with fail
    go_ret
    exact ⟨rfl, hbw3⟩
  rw [decide_eq_false g2]
  obtain ⟨n1, o1⟩ := Bk.big_not g1
  obtain ⟨n2, o2⟩ := Bk.big_not g2
  have O1 := Lib.hid o1
  have O2 := Lib.hid o2
  clear g1 g2 o1 o2
  go_wp2_with fail
  refine (book_Encode w3.heap.size _ _ _ l _ (by rfl) ⟨rfl, hs1.below (by decide) hbw3⟩ (by omega) (fun e he => by have := O1.out e he; omega)).mono ?_
  rintro e w4 ⟨v4, rfl, ho4, hb4⟩
  have hbw4 := hbw3.trans (hb4.mono hbw3.size)
  obtain ⟨x1, hx1⟩ : ∃ x, x = (Bk.encOut l).length := ⟨_, rfl⟩
  have hx1l : x1 ≤ 1000000 := by rw [hx1]; exact Bk.encOut_len l
  have X1 := Lib.hid hx1
  clear hx1
  obtain ⟨a4, c4, rfl, hc4, hm4, hr4, _⟩ := ho4.shape x1 X1.out
  clear hbw3 hb4 ho4
  go_wp2_with fail
  refine (book_Encode w4.heap.size _ _ _ m _ (by rfl) ⟨rfl, hs2.below (by decide) hbw4⟩ (by omega) (fun e he => by have := O2.out e he; omega)).mono ?_
  rintro e w5 ⟨v5, rfl, ho5, hb5⟩
  have hbw5 := hbw4.trans (hb5.mono hbw4.size)
  obtain ⟨x2, hx2⟩ : ∃ x, x = (Bk.encOut m).length := ⟨_, rfl⟩
  have hx2l : x2 ≤ 1000000 := by rw [hx2]; exact Bk.encOut_len m
  have X2 := Lib.hid hx2
  clear hx2
  obtain ⟨a5, c5, rfl, hc5, hm5, hr5, _⟩ := ho5.shape x2 X2.out
  have hr45 := hr4.below (by decide) hb5
  clear hbw4 hb5 ho5 hr4
  obtain ⟨e1, he1⟩ : ∃ x, x = Bk.encErr l := ⟨_, rfl⟩
  obtain ⟨e2, he2⟩ : ∃ x, x = Bk.encErr m := ⟨_, rfl⟩
  rw [← he1, ← he2]
  have E1 := Lib.hid he1
  have E2 := Lib.hid he2
  clear he1 he2
  by_cases z1 : e1 = 0
  · have z1' : (e1 != 0) = false := by simp [z1]
    by_cases z2 : e2 = 0
    · have z2' : (e2 != 0) = false := by simp [z2]
      have hk1 : Bk.encErr l = 0 := by rw [← E1.out, z1]
      have hk2 : Bk.encErr m = 0 := by rw [← E2.out, z2]
      have K1 := Lib.hid hk1
      have K2 := Lib.hid hk2
      have hsame := Bk.encOut_same hk1 hk2
      have Hsame := Lib.hid hsame
      clear z1 z2 hk1 hk2 hsame
      go_wp2_with fail
      refine (ref_Same _ _ _ _ _ _ _ _ _ hr45 hr5).mono ?_
      rw [Hsame.out]
      rintro e w6 ⟨rfl, rfl⟩
      go_wp2_with fail
      refine (ref05_SameEvents _ _ _ _ _ _ l m _ ⟨rfl, hs1.below (by decide) hbw5⟩ ⟨rfl, hs2.below (by decide) hbw5⟩ (by omega) (fun e he => by have := O1.out e he; omega)).mono ?_
      rintro e w6 ⟨rfl, hb6⟩
      have hbw6 := hbw5.trans (hb6.mono hbw5.size)
      have hne : ((l == m) != (l == m)) = false := by cases (l == m) <;> rfl
      clear hr45 hr5 hbw5 hb6
      obtain ⟨qq, hqq⟩ : ∃ q, q = (l == m) := ⟨_, rfl⟩
      rw [← hqq] at hne ⊢
      clear hqq
      go_wp2_with fail
      refine (ref05_Copy w6.heap.size _ _ _ l _ (by rfl) ⟨rfl, hs1.below (by decide) hbw6⟩ (by omega) (fun e he => by have := O1.out e he; omega)).mono ?_
      rintro e w7 ⟨v7, rfl, ho7, hb7⟩
      have hbw7 := hbw6.trans (hb7.mono hbw6.size)
      have hsl7 : Sl EEv (fun b => some b ≠ v7.ownBlock) w7 a2 m := (hs2.below (by decide) hbw6).foreign (by decide) hb7 ho7 (Nat.le_refl _)
      have hb7s := hb7.size
      clear hb7
      go_wp2_with (first
        | (refine wpList_app EEv rfl rfl (by rfl) (by rfl) ti_evs ho7 rfl hsl7 (by unfold maxLen; omega) (by omega) hb7s ?_
           intro v8 w8 ho8 hg8 hv8 hb8))
      obtain ⟨n8, hn8⟩ : ∃ n, n = (l ++ m).length := ⟨_, rfl⟩
      have hn8l : n8 = l.length + m.length := by rw [hn8, List.length_append]
      obtain ⟨a8, c8, rfl, hc8, hm8, hr8, _⟩ := ho8.shape n8 hn8
      have hops8 : ∀ e ∈ l ++ m, e.2.2.length ≤ 1000 := fun e he => by
        rcases List.mem_append.1 he with he | he
        · have := O1.out e he; omega
        · have := O2.out e he; omega
      have hbw8 := hbw7.trans (hb8.mono hbw6.size)
      have Hops8 := Lib.hid hops8
      have herr := Bk.encErr_app K1.out K2.out
      have Herr := Lib.hid herr
      have Hn8 := Lib.hid hn8
      have Hn8l := Lib.hid hn8l
      have hn8b : n8 ≤ 1000 := by omega
      clear hops8 herr ho8 hg8 hv8 hb8 hn8 hn8l hsl7 ho7
      refine (book_Encode w8.heap.size _ _ _ (l ++ m) _ (by rfl) hr8 (by omega) Hops8.out).mono ?_
      rw [Herr.out]
      rintro e w9 ⟨v9, rfl, ho9, hb9⟩
      have hbw9 := hbw8.trans (hb9.mono hbw8.size)
      obtain ⟨x9, hx9⟩ : ∃ x, x = (Bk.encOut (l ++ m)).length := ⟨_, rfl⟩
      have hx9l : x9 ≤ 1000000 := by rw [hx9]; exact Bk.encOut_len _
      have X9 := Lib.hid hx9
      clear hx9
      obtain ⟨a9, c9, rfl, hc9, hm9, hr9, _⟩ := ho9.shape x9 X9.out
      clear ho9 hbw8 hb9 hr9 hr8
      by_cases h4 : 400 < l.length + m.length
      · rw [if_pos h4]
        have h4' : 400 < (l.length : Int) + (m.length : Int) := by omega
        have h4'' : decide (400 < (l.length : Int) + (m.length : Int)) = true := by simpa using h4'
        clear h4
        go_wp2_with fail
        go_ret
        exact ⟨rfl, hbw9⟩
      · rw [if_neg h4]
        have hap := Bk.encOut_app K1.out K2.out (by omega)
        rw [← X1.out, ← X2.out, ← X9.out] at hap
        have hap1 : (x1 : Int) ≤ (x9 : Int) := by omega
        have hap2 : (x2 : Int) ≤ (x9 : Int) := by omega
        clear h4 hap
        go_wp2_with fail
        go_ret
        exact ⟨rfl, hbw9⟩
    · have z2' : (e2 != 0) = true := by simp [z2]
      go_wp2_with fail
      go_ret
      exact ⟨rfl, hbw5⟩
  · have z1' : (e1 != 0) = true := by simp [z1]
    go_wp2_with fail
    go_ret
    exact ⟨rfl, hbw5⟩
end Go.Proofs.Ytennjoegjghlaaa

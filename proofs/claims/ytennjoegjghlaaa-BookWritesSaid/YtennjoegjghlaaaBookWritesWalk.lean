
/-
  The walk of the law 'BookWrites'.
-/
import Derived.Test.YtennjoegjghlaaaBookFormWalk
import Derived.Test.YtennjoegjghlaaaBookRefE
namespace Go.Proofs.Ytennjoegjghlaaa
open Go.RowKit
set_option linter.unusedVariables false

set_option maxRecDepth 100000 in
set_option maxHeartbeats 3200000 in
theorem law_BookWrites (a : Option Addr) (c : Nat) (l : List Bk.Ev) (w : World) (hs : Sl EEv (fun _ => True) w a l) (hc : l.length ≤ c) (hm : c ≤ maxLen) :
    Calls Try.prog 8 #[.slice a l.length c] w fun e w' => e = .returned (.bool true) ∧ Below w.heap.size w w' := by
  go_enter Try.func8, Try.ntmps8
  go_wp2_with fail
  refine (law6_head _).mono ?_
  rintro e w1 ⟨rfl, hb1⟩
  go_wp2_with fail
  refine (law6_big _ _ _ l _ ⟨rfl, hs.below (by decide) hb1⟩).mono ?_
  rintro e w2 ⟨rfl, hb2⟩
  have hbw2 := hb1.trans (hb2.mono hb1.size)
  clear hb1 hb2
  by_cases g1 : Bk.big l
  · rw [decide_eq_true g1]
    go_wp2_with fail
    go_ret
    exact ⟨rfl, hbw2⟩
  rw [decide_eq_false g1]
  obtain ⟨n1, o1⟩ := Bk.big_not g1
  have hops : ∀ e ∈ l, e.2.2.length ≤ 1000 := fun e he => by have := o1 e he; omega
  have Hops := Lib.hid hops
  clear g1 o1 hops
  go_wp2_with fail
  refine (ref05_Copy w2.heap.size _ _ _ l _ (by rfl) ⟨rfl, hs.below (by decide) hbw2⟩ (by omega) (fun e he => by have := Hops.out e he; omega)).mono ?_
  rintro e w3 ⟨v3, rfl, ho3, hb3⟩
  have hbw3 := hbw2.trans (hb3.mono hbw2.size)
  obtain ⟨a3, c3, rfl, hc3, hm3, hr3, _⟩ := ho3.shape l.length rfl
  clear hbw2 hb3 ho3
  go_wp2_with fail
  refine (book_Encode w3.heap.size _ _ _ l _ (by rfl) hr3 (by omega) Hops.out).mono ?_
  rintro e w4 ⟨v4, rfl, ho4, hb4⟩
  have hbw4 := hbw3.trans (hb4.mono hbw3.size)
  obtain ⟨x1, hx1⟩ : ∃ x, x = (Bk.encOut l).length := ⟨_, rfl⟩
  have hx1l : x1 ≤ 1000000 := by rw [hx1]; exact Bk.encOut_len l
  have X1 := Lib.hid hx1
  clear hx1
  obtain ⟨a4, c4, rfl, hc4, hm4, hr4, _⟩ := ho4.shape x1 X1.out
  have hr34 := hr3.below (by decide) hb4
  clear hbw3 hb4 ho4 hr3
  go_wp2_with fail
  refine (ref06_Encode w4.heap.size _ _ _ l _ (by rfl) ⟨rfl, hs.below (by decide) hbw4⟩ (by omega) Hops.out).mono ?_
  rintro e w5 ⟨v5, rfl, ho5, hb5⟩
  have hbw5 := hbw4.trans (hb5.mono hbw4.size)
  obtain ⟨a5, c5, rfl, hc5, hm5, hr5, _⟩ := ho5.shape x1 X1.out
  have hr35 := hr34.below (by decide) hb5
  have hr45 := hr4.below (by decide) hb5
  clear hbw4 hb5 ho5 hr34 hr4
  obtain ⟨er, her⟩ : ∃ x, x = Bk.encErr l := ⟨_, rfl⟩
  rw [← her]
  have Her := Lib.hid her
  clear her
  have herr : (er != er) = false := by simp
  go_wp2_with fail
  refine (ref_Same _ _ _ _ _ _ _ _ _ hr45 hr5).mono ?_
  rw [beq_self_eq_true]
  rintro e w6 ⟨rfl, rfl⟩
  go_wp2_with fail
  refine (ref05_SameEvents _ _ _ _ _ _ l l _ hr35 ⟨rfl, hs.below (by decide) hbw5⟩ (by omega) (fun e he => by have := Hops.out e he; omega)).mono ?_
  rw [beq_self_eq_true]
  rintro e w6 ⟨rfl, hb6⟩
  have hbw6 := hbw5.trans (hb6.mono hbw5.size)
  have hr46 := hr45.below (by decide) hb6
  clear hr35 hr45 hr5 hb6 hbw5
  by_cases he : er = 0
  · have hok : Bk.esOk l := Bk.esOk_of (by rw [← Her.out, he])
    have hout := Bk.encOut_of hok
    have hdec : Bk.dec (Bts.bitsOf (Bk.encOut l)) = (l, 0) := by rw [hout]; exact Bk.dec_enc hok
    subst he
    have Hdec := Lib.hid hdec
    clear hdec hok hout
    go_wp2_with fail
    refine (book_Decode w6.heap.size a4 x1 c4 (Bk.encOut l) _ (by rfl) hr46 (by omega)).mono ?_
    rw [Hdec.out]
    rintro e w7 ⟨v7, rfl, ho7, hb7⟩
    have hbw7 := hbw6.trans (hb7.mono hbw6.size)
    obtain ⟨a7, c7, rfl, hc7, hm7, hr7, _⟩ := ho7.shape l.length rfl
    clear ho7 hb7 hbw6 hr46
    go_wp2_with fail
    refine (ref05_SameEvents _ _ _ _ _ _ l l _ hr7 ⟨rfl, hs.below (by decide) hbw7⟩ (by omega) (fun e he => by have := Hops.out e he; omega)).mono ?_
    rw [beq_self_eq_true]
    rintro e w8 ⟨rfl, hb8⟩
    go_wp2_with fail
    go_ret
    exact ⟨rfl, hbw7.trans (hb8.mono hbw7.size)⟩
  · have he' : (er != 0) = true := by simpa using he
    have hnil : Bk.encOut l = [] := by
      unfold Bk.encOut
      rw [if_neg (by rw [← Her.out]; exact he)]
    have hz : x1 = 0 := by rw [X1.out, hnil]; rfl
    subst hz
    clear he hnil
    go_wp2_with fail
    go_ret
    exact ⟨rfl, hbw6⟩
end Go.Proofs.Ytennjoegjghlaaa


/-
  The walk of the law 'BookReads'.
-/
import Derived.Test.YtennjoegjghlaaaBookFormWalk
import Derived.Test.YtennjoegjghlaaaBookRefW
namespace Go.Proofs.Ytennjoegjghlaaa
open Go.RowKit
set_option linter.unusedVariables false

theorem Bk.dec_len (b : List (BitVec 8)) : (Bk.dec (Bts.bitsOf b)).1.length ≤ 400 ∧ ∀ e ∈ (Bk.dec (Bts.bitsOf b)).1, e.2.2.length ≤ 12 := by
  rcases Bk.dec_bad (Bts.bitsOf b) with h | h
  · have := (Bk.dec_ok h).1
    exact ⟨this.1, fun e he => (this.2 e he).1.2.2.2.2⟩
  · rw [h.1]; exact ⟨Nat.zero_le _, fun e he => by cases he⟩

set_option maxRecDepth 100000 in
set_option maxHeartbeats 3200000 in
theorem law_BookReads (a : Option Addr) (c : Nat) (b : List (BitVec 8)) (w : World) (hs : Sl EU8 (fun _ => True) w a b) (hc : b.length ≤ c) (hm : c ≤ maxLen) :
    Calls Try.prog 9 #[.slice a b.length c] w fun e w' => e = .returned (.bool true) ∧ Below w.heap.size w w' := by
  go_enter Try.func9, Try.ntmps9
  go_wp2_with fail
  refine (law6_head _).mono ?_
  rintro e w1 ⟨rfl, hb1⟩
  by_cases h3 : 2000 < b.length
  · have h3' : 2000 < (b.length : Int) := by omega
    go_wp2_with fail
    go_ret
    exact ⟨rfl, hb1⟩
  have h3' : ¬ (2000 < (b.length : Int)) := by omega
  go_wp2_with fail
  refine (ref_Copy a b.length c b _ ⟨rfl, hs.below (by decide) hb1⟩ (by omega)).mono ?_
  rintro e w2 ⟨v2, rfl, ho2, hb2⟩
  have hbw2 := hb1.trans (hb2.mono hb1.size)
  obtain ⟨a2, c2, rfl, hc2, hm2, hr2, _⟩ := ho2.shape b.length rfl
  clear hb1 hb2 ho2
  go_wp2_with fail
  refine (book_Decode w2.heap.size a2 b.length c2 b _ (by rfl) hr2 (by omega)).mono ?_
  rintro e w3 ⟨v3, rfl, ho3, hb3⟩
  have hbw3 := hbw2.trans (hb3.mono hbw2.size)
  have hr23 := hr2.below (by decide) hb3
  obtain ⟨d1, d2⟩ := Bk.dec_len b
  obtain ⟨es, hes⟩ : ∃ es, es = (Bk.dec (Bts.bitsOf b)).1 := ⟨_, rfl⟩
  obtain ⟨er, her⟩ : ∃ er, er = (Bk.dec (Bts.bitsOf b)).2 := ⟨_, rfl⟩
  rw [← hes] at ho3 d1 d2
  rw [← her]
  have Hes := Lib.hid hes
  have Her := Lib.hid her
  have D2 := Lib.hid d2
  obtain ⟨a3, c3, rfl, hc3, hm3, hr3, _⟩ := ho3.shape es.length rfl
  clear hb3 ho3 hbw2 hr2 hes her d2
  go_wp2_with fail
  refine (ref06_Decode w3.heap.size a b.length c b _ (by rfl) ⟨rfl, hs.below (by decide) hbw3⟩ (by omega)).mono ?_
  rintro e w4 ⟨v4, rfl, ho4, hb4⟩
  have hbw4 := hbw3.trans (hb4.mono hbw3.size)
  rw [← Hes.out] at ho4
  rw [← Her.out]
  obtain ⟨a4, c4, rfl, hc4, hm4, hr4, _⟩ := ho4.shape es.length rfl
  have hr34 := hr3.below (by decide) hb4
  have hr24 := hr23.below (by decide) hb4
  clear hb4 ho4 hbw3 hr3 hr23
  have herr : (er == er) = true := by simp
  go_wp2_with fail
  refine (ref05_SameEvents _ _ _ _ _ _ es es _ hr34 hr4 (by omega) (fun e he => by have := D2.out e he; omega)).mono ?_
  rw [beq_self_eq_true]
  rintro e w5 ⟨rfl, hb5⟩
  have hbw5 := hbw4.trans (hb5.mono hbw4.size)
  have hr25 := hr24.below (by decide) hb5
  clear hb5 hbw4 hr34 hr4 hr24
  go_wp2_with fail
  refine (ref_Same _ _ _ _ _ _ b b _ hr25 ⟨rfl, hs.below (by decide) hbw5⟩).mono ?_
  rw [beq_self_eq_true]
  rintro e w6 ⟨rfl, rfl⟩
  go_wp2_with fail
  go_ret
  exact ⟨rfl, hbw5⟩
end Go.Proofs.Ytennjoegjghlaaa

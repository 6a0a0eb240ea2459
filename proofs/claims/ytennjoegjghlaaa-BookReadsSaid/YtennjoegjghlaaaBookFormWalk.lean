
/-
  The walk of the law 'BookForm'.
-/
import Derived.Test.YtennjoegjghlaaaBookHead
import Derived.Test.YtennjoegjghlaaaBookSizesWalk
import Derived.Test.YtennjoegjghlaaaBookDecW2
namespace Go.Proofs.Ytennjoegjghlaaa
open Go.RowKit
set_option linter.unusedVariables false

namespace Bk
theorem encErr_of {l : List Ev} (h : esOk l) : encErr l = 0 := by
  unfold encErr
  rw [if_neg (by have := h.1; omega), if_pos h.2]
theorem encOut_of {l : List Ev} (h : esOk l) : encOut l = Bts.pack (esBits l) := by
  unfold encOut
  rw [if_pos (encErr_of h)]
theorem esOk_of {l : List Ev} (h : encErr l = 0) : esOk l := encErr_ok h
end Bk

set_option maxRecDepth 100000 in
set_option maxHeartbeats 3200000 in
theorem law_BookForm (a : Option Addr) (c : Nat) (b : List (BitVec 8)) (at_ : Int) (more : BitVec 8) (w : World) (hs : Sl EU8 (fun _ => True) w a b) (hc : b.length ≤ c) (hm : c ≤ maxLen) (hat : -9223372036854775808 ≤ at_ ∧ at_ ≤ 9223372036854775807) :
    Calls Try.prog 10 #[.slice a b.length c, .int .i64 at_, .int .u8 (bv more)] w fun e w' => e = .returned (.bool true) ∧ Below w.heap.size w w' := by
  go_enter Try.func10, Try.ntmps10
  go_wp2_with fail
  refine (law6_head _).mono ?_
  rintro e w1 ⟨rfl, hb1⟩
  by_cases h3 : 3000 < b.length
  · have h3' : 3000 < (b.length : Int) := by omega
    go_wp2_with fail
    go_ret
    exact ⟨rfl, hb1⟩
  have h3' : ¬ (3000 < (b.length : Int)) := by omega
  go_wp2_with fail
  refine (ref_Copy a b.length c b _ ⟨rfl, hs.below (by decide) hb1⟩ (by omega)).mono ?_
  rintro e w2 ⟨v2, rfl, ho2, hb2⟩
  have hbw2 := hb1.trans (hb2.mono hb1.size)
  obtain ⟨a2, c2, rfl, hc2, hm2, hr2, _⟩ := ho2.shape b.length rfl
  clear hb1 hb2 ho2
  go_wp2_with fail
  refine (book_Decode w2.heap.size a2 b.length c2 b _ (by rfl) hr2 (by omega)).mono ?_
  rintro e w3 ⟨v3, rfl, ho3, hb3⟩
  have hbw3 := hbw2.trans (hb3.mono hbw2.size)
  obtain ⟨es, hes⟩ : ∃ es, es = (Bk.dec (Bts.bitsOf b)).1 := ⟨_, rfl⟩
  obtain ⟨er, her⟩ : ∃ er, er = (Bk.dec (Bts.bitsOf b)).2 := ⟨_, rfl⟩
  rw [← hes] at ho3
  rw [← her]
  obtain ⟨ne, hne⟩ : ∃ n, n = es.length := ⟨_, rfl⟩
  obtain ⟨a3, c3, rfl, hc3, hm3, hr3, _⟩ := ho3.shape ne hne
  clear hb3 ho3 hbw2 hr2
  by_cases he : er = 0
  · have hok := Bk.dec_ok (b := b) (by rw [← her, he])
    rw [← hes] at hok
    obtain ⟨h1, h2⟩ := hok
    have k1 := Bk.encErr_of h1
    have k2 := Bk.encOut_of h1
    rw [← h2] at k2
    have k3 : (Bk.dec (Bts.bitsOf (b ++ [more]))).2 = 12 := by rw [h2, Bk.dec_more h1]
    have k4 : ∀ k, k < b.length → (Bk.dec (Bts.bitsOf (b.take k))).2 = 10 := fun k hk => by
      rw [h2] at hk ⊢
      rw [Bk.dec_cut h1 hk]
    have hne4 : ne ≤ 400 := by rw [hne]; exact h1.1
    have hops : ∀ e ∈ es, e.2.2.length ≤ 1000 := fun e he => by have := (h1.2 e he).1.2.2.2.2; omega
    have K1 := Lib.hid k1
    have K2 := Lib.hid k2
    have K3 := Lib.hid k3
    have K4 := Lib.hid k4
    have Hops := Lib.hid hops
    subst he
    clear k1 k2 k3 k4 h1 h2 hes her hops hne
    go_wp2_with fail
    refine (book_Encode w3.heap.size _ _ _ es _ (by rfl) hr3 (by omega) Hops.out).mono ?_
    rw [K1.out, K2.out]
    rintro e w4 ⟨v4, rfl, ho4, hb4⟩
    have hbw4 := hbw3.trans (hb4.mono hbw3.size)
    obtain ⟨a4, c4, rfl, hc4, hm4, hr4, _⟩ := ho4.shape b.length rfl
    clear hb4 ho4 hbw3 hr3
    have hs4 := hs.below (by decide) hbw4
    go_wp2_with fail
    refine (ref_Same _ _ _ _ _ _ b b _ ⟨rfl, hs4⟩ hr4).mono ?_
    rw [beq_self_eq_true]
    rintro e w5 ⟨rfl, rfl⟩
    go_wp2_with fail
    refine (ref_Copy a b.length c b _ ⟨rfl, hs4⟩ (by omega)).mono ?_
    rintro e w5 ⟨v5, rfl, ho5, hb5⟩
    have hbw5 := hbw4.trans (hb5.mono hbw4.size)
    have hsz := hb5.size
    have hfr := ho5.fresh
    have hb6 : Below w5.heap.size w5 (w5.alloc (.cells #[.int .u8 (bv more)] 5)) := (Below.refl _ _).alloc (Nat.le_refl _) _
    have ho6 := ho5.below hb6
    have hsl6 : Sl EU8 (fun b => some b ≠ v5.ownBlock) (w5.alloc (.cells #[.int .u8 (bv more)] 5)) (some ⟨w5.heap.size, 0, none⟩) [more] := sl_cells (heap_alloc_new w5 _) rfl hfr
    go_wp2_with (first
      | (refine wpList_app EU8 rfl rfl (by rfl) (by rfl) ti_bytes ho6 rfl hsl6 (by unfold maxLen; simp; omega) (by simp; omega) (by simp; omega) ?_
         intro v8 w8 ho8 hg8 hv8 hb8
         obtain ⟨a8, c8, rfl, hc8, hm8, hr8, _⟩ := ho8.shape (b.length + 1) (by simp)))
    have hbw8 := (hbw5.trans (hb6.mono hbw5.size)).trans (hb8.mono hbw4.size)
    clear hb6 ho6 hsl6 ho5 hb5 hfr hg8 hv8 hb8 ho8
    refine (book_Decode w8.heap.size a8 (b.length + 1) c8 (b ++ [more]) _ (by rfl) hr8 (by omega)).mono ?_
    rintro e w9 ⟨v9, rfl, ho9, hb9⟩
    rw [K3.out]
    have hbw9 := hbw8.trans (hb9.mono hbw8.size)
    clear ho9 hb9 hr8 hbw8 hsz
    have hs9 := hs.below (by decide) hbw9
    by_cases h0 : at_ < 0
    · have h0' : decide (at_ < 0) = true := by simpa using h0
      go_wp2_with fail
      go_ret
      exact ⟨rfl, hbw9⟩
    have h0' : decide (at_ < 0) = false := by simpa using h0
    obtain ⟨k, hk⟩ : ∃ k : Nat, at_ = k := ⟨at_.toNat, by omega⟩
    subst hk
    by_cases hkb : b.length ≤ k
    · have hkb' : (b.length : Int) ≤ (k : Int) := by omega
      go_wp2_with fail
      go_ret
      exact ⟨rfl, hbw9⟩
    have hkb' : ¬ ((b.length : Int) ≤ (k : Int)) := by omega
    have hkc : (k : Int) ≤ (c : Int) := by omega
    have hk4 := K4.out k (by omega)
    have Hk4 := Lib.hid hk4
    clear hk4
    go_wp2_with fail
    refine (book_Decode w9.heap.size a k c (b.take k) _ (by rfl) (RB.take hs9 (by omega)) (by omega)).mono ?_
    rintro e w10 ⟨v10, rfl, ho10, hb10⟩
    rw [Hk4.out]
    go_wp2_with fail
    go_ret
    exact ⟨rfl, hbw9.trans (hb10.mono hbw9.size)⟩
  · have he' : (er != 0) = true := by simpa using he
    have hnil : es = [] := by
      rcases Bk.dec_bad (Bts.bitsOf b) with h | h
      · exact absurd (her.trans h) he
      · rw [hes]; exact h.1
    have hz : ne = 0 := by rw [hne, hnil]; rfl
    subst hz
    clear hes her hne he
    go_wp2_with fail
    go_ret
    exact ⟨rfl, hbw3⟩
end Go.Proofs.Ytennjoegjghlaaa

/-
  The walk of the law 'FrameReads'.
-/
import Derived.Test.YtcmkkilhipnbcaaFrameRead
namespace Go.Proofs.Ytcmkkilhipnbcaa
open Go.RowKit
set_option linter.unusedVariables false

/-- a frame in cells of its own -/
def FrAt (B : Nat) (w : World) (g : Nat) (k : Int) (d : List (BitVec 8)) : Prop :=
  B ≤ g ∧ ∃ a c, w.heap[g]? = some (.cells #[.int .i64 k, .slice a d.length c] 40 (0, 0)) ∧ Sl EU8 (fun b => B ≤ b) w a d ∧ d.length ≤ c ∧ c ≤ maxLen

theorem FrAt.below {B : Nat} {w w' : World} {g : Nat} {k : Int} {d : List (BitVec 8)} (h : FrAt B w g k d) (hb : Below w.heap.size w w') : FrAt B w' g k d := by
  obtain ⟨h1, a, c, hh, hs, hr⟩ := h
  exact ⟨h1, a, c, by rw [hb.block _ (Array.getElem?_eq_some_iff.1 hh).1]; exact hh, hs.below (by decide) hb, hr⟩

theorem FrAt.base {B B' : Nat} {w : World} {g : Nat} {k : Int} {d : List (BitVec 8)} (h : FrAt B w g k d) (hb : B' ≤ B) : FrAt B' w g k d := by
  obtain ⟨h1, a, c, hh, hs, hr⟩ := h
  exact ⟨by omega, a, c, hh, hs.mono (by decide) fun k hk _ => ⟨rfl, by omega⟩, hr⟩

/-- what lies there -/
theorem FrAt.at {B : Nat} {w : World} {g : Nat} {k : Int} {d : List (BitVec 8)} (h : FrAt B w g k d) :
    ∃ a c, w.cell? ⟨g, 0, none⟩ = some (.int .i64 k) ∧ w.cell? ⟨g, 1, none⟩ = some (.slice a d.length c) ∧ (∀ o, w.frozen? ⟨g, o, none⟩ = false) ∧ SB w a d ∧ d.length ≤ c ∧ c ≤ maxLen := by
  obtain ⟨h1, a, c, hh, hs, h2, h3⟩ := h
  exact ⟨a, c, by simp [World.cell?, hh], by simp [World.cell?, hh], fun o => by simp [World.frozen?, hh], hs.any (by decide), h2, h3⟩

/-- the same, with the content's place -/
theorem FrAt.at' {B : Nat} {w : World} {g : Nat} {k : Int} {d : List (BitVec 8)} (h : FrAt B w g k d) :
    ∃ a c, w.cell? ⟨g, 0, none⟩ = some (.int .i64 k) ∧ w.cell? ⟨g, 1, none⟩ = some (.slice a d.length c) ∧ (∀ o, w.frozen? ⟨g, o, none⟩ = false) ∧ Sl EU8 (fun b => B ≤ b) w a d ∧ d.length ≤ c ∧ c ≤ maxLen := by
  obtain ⟨h1, a, c, hh, hs, h2, h3⟩ := h
  exact ⟨a, c, by simp [World.cell?, hh], by simp [World.cell?, hh], fun o => by simp [World.frozen?, hh], hs, h2, h3⟩

/-- a call's frame laid into cells: the call first -/
theorem frAt_first {B : Nat} {w : World} {k : Int} {d : List (BitVec 8)} {a : Option Addr} {c : Nat} (h1 : B ≤ w.heap.size) (hs : Sl EU8 (fun b => B ≤ b) w a d) (hc : d.length ≤ c) (hm : c ≤ maxLen) :
    FrAt B (w.alloc (.cells #[.int .i64 k, .slice a d.length c] 40)) w.heap.size k d :=
  ⟨h1, a, c, heap_alloc_new w _, hs.below (by decide) ((Below.refl _ _).alloc (Nat.le_refl _) _), hc, hm⟩

/-- the cells first -/
theorem frAt_later {B g : Nat} {w : World} {k : Int} {d : List (BitVec 8)} {a : Option Addr} {c : Nat} {u v : Value} (h1 : B ≤ g) (hg : w.heap[g]? = some (.cells #[u, v] 40 (0, 0))) (hs : Sl EU8 (fun b => g + 1 ≤ b) w a d) (hc : d.length ≤ c) (hm : c ≤ maxLen) :
    FrAt B ((w.setCell ⟨g, 0, none⟩ (.int .i64 k)).setCell ⟨g, 1, none⟩ (.slice a d.length c)) g k d :=
  ⟨h1, a, c, heap_set (heap_set hg 0 _) 1 _, hs.mono (by decide) (fun k hk _ => ⟨by rw [Below.heap_setCell _ _ _ _ (by simp; omega), Below.heap_setCell _ _ _ _ (by simp; omega)], by omega⟩), hc, hm⟩

/-- what stands behind cells that were laid first -/
theorem behind_new {w W W5 : World} {n : Nat} {x : Obj} (hW : W.heap = (w.alloc x).heap) (h0 : Below w.heap.size w W) (h : Below (w.heap.size + 1) W W5) : Below w.heap.size w W5 ∧ W5.heap[w.heap.size]? = some x :=
  ⟨h0.trans (h.mono (by omega)), by rw [h.block _ (by omega), hW]; exact heap_alloc_new w x⟩

set_option maxHeartbeats 3200000 in
theorem law_FrameReads (a : Option Addr) (c : Nat) (l : List (BitVec 8)) (w : World) (hs : SB w a l) (hc : l.length ≤ c) (hm : c ≤ maxLen) :
    Calls Try.prog 10 #[.slice a l.length c] w fun e w' => e = .returned (.bool true) ∧ Below w.heap.size w w' := by
  by_cases hbig : 70000 < l.length
  · have hg : decide (70000 < (l.length : Int)) = true := by simp; omega
    go_enter Try.func10, Try.ntmps10
    go_wp2_with fail
    refine (law4_head _).mono ?_
    rintro e w1 ⟨rfl, hb⟩
    go_wp2
    go_ret
    exact ⟨rfl, hb⟩
  · have hg : decide (70000 < (l.length : Int)) = false := by simp; omega
    go_enter Try.func10, Try.ntmps10
    go_wp2_with fail
    refine (law4_head _).mono ?_
    rintro e w1 ⟨rfl, hb1⟩
    have hs1 : SB w1 a l := hs.below (by decide) hb1
    go_wp2_with fail
    refine (ref_Copy_at w1.heap.size _ _ _ l _ (by rfl) ⟨rfl, hs1⟩ (by omega)).mono ?_
    rintro e w2 ⟨v2, rfl, ho2, hb2⟩
    obtain ⟨a2, c2, rfl, hc2, hm2, hr2, ho2'⟩ := ho2.shape _ rfl
    have hs2 : SB w2 a l := hs1.below (by decide) hb2
    have hbw : Below w.heap.size w w2 := hb1.trans (hb2.mono hb1.size)
    have hw2 : w.heap.size ≤ w2.heap.size := hbw.size
    clear hb1 hb2 hs1
    go_wp2_with fail
    refine (frame_Decode w2.heap.size _ _ _ l _ (by rfl) hr2 (by omega) (by omega)).mono ?_
    rintro e w3 ⟨a3, c3, rfl, hs3, hc3, hm3, hb3⟩
    obtain ⟨w4, hw4⟩ : ∃ w4, w4 = w3.alloc (.cells #[.int .i64 (Frm.dec l).kind, .slice a3 (Frm.dec l).data.length c3] 40) := ⟨_, rfl⟩
    have hf4 : FrAt w2.heap.size w4 w3.heap.size (Frm.dec l).kind (Frm.dec l).data := by subst hw4; exact frAt_first hb3.size hs3 hc3 hm3
    have hb4 : Below w2.heap.size w2 w4 := by subst hw4; exact hb3.alloc hb3.size _
    have hs4 : SB w4 a l := hs2.below (by decide) hb4
    go_upto_region 7 with fail
    rw [← hw4]
    clear hw4
    go_wp2_with fail
    refine (law4_read w4.heap.size _ _ _ l _ (by rfl) ⟨rfl, hs4⟩ (by omega) (by omega)).mono ?_
    rintro e w5 ⟨a5, c5, rfl, hs5, hc5, hm5, hb5⟩
    obtain ⟨w6, hw6⟩ : ∃ w6, w6 = w5.alloc (.cells #[.int .i64 (Frm.dec l).kind, .slice a5 (Frm.dec l).data.length c5] 40) := ⟨_, rfl⟩
    have hf6 : FrAt w4.heap.size w6 w5.heap.size (Frm.dec l).kind (Frm.dec l).data := by subst hw6; exact frAt_first hb5.size hs5 hc5 hm5
    have hb6 : Below w4.heap.size w4 w6 := by subst hw6; exact hb5.alloc hb5.size _
    have hf4' := hf4.below hb6
    have hr6 : RB w6 a2 l.length l := (hr2.below (by decide) hb4).below (by decide) hb6
    have hs6 : SB w6 a l := hs4.below (by decide) hb6
    have hbw6 : Below w.heap.size w w6 := (hbw.trans (hb4.mono hw2)).trans (hb6.mono (by have := hb4.size; omega))
    obtain ⟨b1, d1, p1, p2, p3, p4, p5, p6⟩ := hf4'.at
    obtain ⟨b2, d2, q1, q2, q3, q4, q5, q6⟩ := hf6.at
    go_upto_region 8 with fail
    rw [← hw6]
    clear hw6
    go_wp2_with fail
    refine (law4_same _ _ _ _ (Frm.dec l).data _ _ _ _ (Frm.dec l).data _ ⟨rfl, p4⟩ ⟨rfl, q4⟩).mono ?_
    rintro e w7 ⟨rfl, hb7⟩
    rw [show ((Frm.dec l).kind == (Frm.dec l).kind && (Frm.dec l).data == (Frm.dec l).data) = true by simp]
    go_wp2_with fail
    refine (ref_Same _ _ _ _ _ _ l l _ (hr6.below hb7) ⟨rfl, hs6.below (by decide) hb7⟩).mono ?_
    rintro e w8 ⟨rfl, rfl⟩
    rw [show (l == l) = true by simp]
    go_wp2
    go_ret
    exact ⟨rfl, hbw6.trans (hb7.mono hbw6.size)⟩
end Go.Proofs.Ytcmkkilhipnbcaa

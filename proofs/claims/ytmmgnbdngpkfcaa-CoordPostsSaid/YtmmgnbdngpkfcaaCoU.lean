
/-
  An answer's bytes, read.
-/
import Derived.Test.YtmmgnbdngpkfcaaCoS
import Derived.Test.YtmmgnbdngpkfcaaPars2
namespace Go.Proofs.Ytmmgnbdngpkfcaa
open Go.RowKit
set_option linter.unusedVariables false

/-- a reader with these bits ahead -/
def RdL (ok : Nat → Prop) (w : World) (g : Nat) (b : List (BitVec 8)) (l : Bts.Bits) : Prop := RdS ok w g b (.inl l)
theorem runS_full {α : Type} {enc : α → Bts.Bits} {p : Bts.Pr α} {o : α → Prop} (h : Bts.Coded enc p o) (d x : α) (t : Bts.Bits) (hx : o x) : Bts.runS p d (.inl (enc x ++ t)) = (x, .inl t) := by
  simp only [Bts.runS, h.full x t hx]
theorem rl_Int {ok : Nat → Prop} (g : Nat) (b : List (BitVec 8)) (x : Int) (t : Bts.Bits) (w : World) (hr : RdL ok w g b (Bts.int x ++ t)) (hl : b.length ≤ 1099511627776) (hx : -9223372036854775808 ≤ x ∧ x ≤ 9223372036854775807) :
    Calls Try.prog 127 #[.pointer (some ⟨g, 0, none⟩)] w fun e w' => e = .returned (.int .i64 x) ∧ RdL ok w' g b t ∧ Only (· = g) w w' := by
  have h := bits_RIntS g b _ w hr hl
  rw [runS_full Bts.good_int 0 x t hx] at h
  exact h
theorem rl_Num {ok : Nat → Prop} (g : Nat) (b : List (BitVec 8)) (x : BitVec 64) (t : Bts.Bits) (w : World) (hr : RdL ok w g b (Bts.num x ++ t)) (hl : b.length ≤ 1099511627776) :
    Calls Try.prog 117 #[.pointer (some ⟨g, 0, none⟩)] w fun e w' => e = .returned (.int .u64 (bv x)) ∧ RdL ok w' g b t ∧ Only (· = g) w w' := by
  have h := bits_RNumS g b _ w hr hl
  rw [runS_full Bts.good_num 0#64 x t trivial] at h
  exact h
theorem rl_Bit {ok : Nat → Prop} (g : Nat) (b : List (BitVec 8)) (c : Bool) (t : Bts.Bits) (w : World) (hr : RdL ok w g b (Bts.put (if c = true then 1#64 else 0#64) 1 ++ t)) (hl : b.length ≤ 1099511627776) :
    Calls Try.prog 144 #[.pointer (some ⟨g, 0, none⟩), .int .i64 1] w fun e w' => e = .returned (.int .u64 (if c = true then 1 else 0)) ∧ RdL ok w' g b t ∧ Only (· = g) w w' := by
  have h := bits_GetS g b _ 1 1 w hr hl rfl (by decide)
  have e : Bts.put (if c = true then 1#64 else 0#64) 1 = Bts.low (if c = true then 1#64 else 0#64) 1 := rfl
  rw [e, runS_full (Bts.good_get 1 (by decide)) 0#64 _ t (by cases c <;> decide)] at h
  rw [show bv (if c = true then 1#64 else 0#64) = (if c = true then 1 else 0) by cases c <;> rfl] at h
  exact h
set_option maxRecDepth 4096 in
set_option maxHeartbeats 1600000 in
theorem co_readEnd {ok : Nat → Prop} (g : Nat) (b : List (BitVec 8)) (x : Co.En) (t : Bts.Bits) (w : World) (hr : RdL ok w g b (endB x ++ t)) (hl : b.length ≤ 1099511627776) (hx : enR x) (hok0 : ∀ k, ok k → ¬ w.heap.size ≤ k) :
    Calls Try.prog 129 #[.pointer (some ⟨g, 0, none⟩)] w fun e w' => e = .returned (enV x) ∧ RdL ok w' g b t ∧ Only (· = g) w w' := by
  obtain ⟨et, ec, ea⟩ := x
  obtain ⟨he1, he2⟩ := hx
  dsimp only at he1 he2
  unfold enV
  dsimp only
  obtain ⟨q, hq⟩ : ∃ q, q = w.heap.size := ⟨_, rfl⟩
  obtain ⟨w1, hw1⟩ : ∃ x, x = w.alloc (.cells #[.int .i64 0, .bool false, .int .i64 0] 33) := ⟨_, rfl⟩
  have hh1 : w1.heap[q]? = some (.cells #[.int .i64 0, .bool false, .int .i64 0] 33 (0, 0)) := by rw [hw1, hq]; exact heap_alloc_new w _
  have hb1 : Below w.heap.size w w1 := by rw [hw1]; exact alloc_below _ _
  have hgq : g ≠ q := by have := RdS.lt hr; omega
  have h1 : RdL ok w1 g b _ := RdS.keep hr hb1
  have hw1' := Lib.hid hw1.symm
  have Hq := Lib.hid hq
  have Hh1 := Lib.hid hh1
  have Hb1 := Lib.hid hb1
  unfold endB at h1
  dsimp only at h1
  rw [List.append_assoc, List.append_assoc] at h1
  clear hh1 hb1 hw1 hr hq
  cases ec
  · go_enter Try.func129, Try.ntmps129
    go_upto_region 1 with fail
    rw [hw1'.out, ← Hq.out]
    clear hw1'
    go_wp2_with fail
    refine (rl_Int g b et _ _ h1 hl he1).mono ?_
    rintro x w2 ⟨rfl, h2, o2⟩
    go_wp2_with fail
    refine (rl_Bit g b false _ _ h2 hl).mono ?_
    rintro x w3 ⟨rfl, h3, o3⟩
    go_wp2_with fail
    refine (rl_Int g b ea _ _ h3 hl he2).mono ?_
    rintro x w4 ⟨rfl, h4, o4⟩
    have o14 : Only (· = g) w1 w4 := (o2.trans o3 fun _ _ h => h).trans o4 fun _ _ h => h
    have hh4 : w4.heap[q]? = some (.cells #[.int .i64 0, .bool false, .int .i64 0] 33 (0, 0)) := by
      rw [o14.block q (Array.getElem?_eq_some_iff.1 Hh1.out).1 (fun h => hgq h.symm)]; exact Hh1.out
    have y0 : w4.cell? ⟨q, 0, none⟩ = some (.int .i64 0) := by simp [World.cell?, hh4]
    have y1 : w4.cell? ⟨q, 1, none⟩ = some (.bool false) := by simp [World.cell?, hh4]
    have y2 : w4.cell? ⟨q, 2, none⟩ = some (.int .i64 0) := by simp [World.cell?, hh4]
    have yf : ∀ o, w4.frozen? ⟨q, o, none⟩ = false := fun o => by simp [World.frozen?, hh4]
    have hfin : ∀ (tm : Array Value) (c : Bool) (w' : World), c = false → tm.getD 2 undef = .pointer (some ⟨q, 0, none⟩) → w' = ((w4.setCell ⟨q, 0, none⟩ (.int .i64 et)).setCell ⟨q, 1, none⟩ (.bool c)).setCell ⟨q, 2, none⟩ (.int .i64 ea) →
        bodyPost Try.prog Try.f129 (fun e w' => e = .returned (.agg #[.int .i64 et, .bool false, .int .i64 ea]) ∧ RdL ok w' g b t ∧ Only (· = g) w w') .ret ⟨tm, []⟩ w' := by
      rintro tm c w' rfl hp rfl
      have k := heap_set (heap_set (heap_set hh4 0 (.int .i64 et)) 1 (.bool false)) 2 (.int .i64 ea)
      have o5 : Only (· = q) w4 (((w4.setCell ⟨q, 0, none⟩ (.int .i64 et)).setCell ⟨q, 1, none⟩ (.bool false)).setCell ⟨q, 2, none⟩ (.int .i64 ea)) :=
        (((Only.refl (· = q) w4).setCell (p := ⟨q, 0, none⟩) (.inl rfl) _).setCell (p := ⟨q, 1, none⟩) (.inl rfl) _).setCell (p := ⟨q, 2, none⟩) (.inl rfl) _
      refine bodyPost_ret (v := .agg #[.int .i64 et, .bool false, .int .i64 ea]) (results_cell_row Try.results129 _ _ q 33 _ (0, 0) _ hp k Try.underlying33 rfl (by kernel_rfl)) rfl ?_
      refine ⟨rfl, ?_, ?_⟩
      · have hok := hok0
        exact RdS.only h4 o5 hgq fun k hk e => hok k hk (by rw [e, Hq.out]; exact Nat.le_refl _)
      · have hb : Only (· = g) w w1 := Below.only Hb1.out
        exact ((hb.trans o14 fun _ _ h => h).trans o5 fun k hk e => by have := Hq.out; omega)
    have Hfin := Lib.hid hfin
    clear h1 h2 h3 h4 o2 o3 o4 o14 hfin hh4
    go_wp2_with fail
    exact Hfin.out _ false _ rfl (by rfl) rfl
  · go_enter Try.func129, Try.ntmps129
    go_upto_region 1 with fail
    rw [hw1'.out, ← Hq.out]
    clear hw1'
    go_wp2_with fail
    refine (rl_Int g b et _ _ h1 hl he1).mono ?_
    rintro x w2 ⟨rfl, h2, o2⟩
    go_wp2_with fail
    refine (rl_Bit g b true _ _ h2 hl).mono ?_
    rintro x w3 ⟨rfl, h3, o3⟩
    go_wp2_with fail
    refine (rl_Int g b ea _ _ h3 hl he2).mono ?_
    rintro x w4 ⟨rfl, h4, o4⟩
    have o14 : Only (· = g) w1 w4 := (o2.trans o3 fun _ _ h => h).trans o4 fun _ _ h => h
    have hh4 : w4.heap[q]? = some (.cells #[.int .i64 0, .bool false, .int .i64 0] 33 (0, 0)) := by
      rw [o14.block q (Array.getElem?_eq_some_iff.1 Hh1.out).1 (fun h => hgq h.symm)]; exact Hh1.out
    have y0 : w4.cell? ⟨q, 0, none⟩ = some (.int .i64 0) := by simp [World.cell?, hh4]
    have y1 : w4.cell? ⟨q, 1, none⟩ = some (.bool false) := by simp [World.cell?, hh4]
    have y2 : w4.cell? ⟨q, 2, none⟩ = some (.int .i64 0) := by simp [World.cell?, hh4]
    have yf : ∀ o, w4.frozen? ⟨q, o, none⟩ = false := fun o => by simp [World.frozen?, hh4]
    have hfin : ∀ (tm : Array Value) (c : Bool) (w' : World), c = true → tm.getD 2 undef = .pointer (some ⟨q, 0, none⟩) → w' = ((w4.setCell ⟨q, 0, none⟩ (.int .i64 et)).setCell ⟨q, 1, none⟩ (.bool c)).setCell ⟨q, 2, none⟩ (.int .i64 ea) →
        bodyPost Try.prog Try.f129 (fun e w' => e = .returned (.agg #[.int .i64 et, .bool true, .int .i64 ea]) ∧ RdL ok w' g b t ∧ Only (· = g) w w') .ret ⟨tm, []⟩ w' := by
      rintro tm c w' rfl hp rfl
      have k := heap_set (heap_set (heap_set hh4 0 (.int .i64 et)) 1 (.bool true)) 2 (.int .i64 ea)
      have o5 : Only (· = q) w4 (((w4.setCell ⟨q, 0, none⟩ (.int .i64 et)).setCell ⟨q, 1, none⟩ (.bool true)).setCell ⟨q, 2, none⟩ (.int .i64 ea)) :=
        (((Only.refl (· = q) w4).setCell (p := ⟨q, 0, none⟩) (.inl rfl) _).setCell (p := ⟨q, 1, none⟩) (.inl rfl) _).setCell (p := ⟨q, 2, none⟩) (.inl rfl) _
      refine bodyPost_ret (v := .agg #[.int .i64 et, .bool true, .int .i64 ea]) (results_cell_row Try.results129 _ _ q 33 _ (0, 0) _ hp k Try.underlying33 rfl (by kernel_rfl)) rfl ?_
      refine ⟨rfl, ?_, ?_⟩
      · have hok := hok0
        exact RdS.only h4 o5 hgq fun k hk e => hok k hk (by rw [e, Hq.out]; exact Nat.le_refl _)
      · have hb : Only (· = g) w w1 := Below.only Hb1.out
        exact ((hb.trans o14 fun _ _ h => h).trans o5 fun k hk e => by have := Hq.out; omega)
    have Hfin := Lib.hid hfin
    clear h1 h2 h3 h4 o2 o3 o4 o14 hfin hh4
    go_wp2_with fail
    exact Hfin.out _ true _ rfl (by rfl) rfl
end Go.Proofs.Ytmmgnbdngpkfcaa

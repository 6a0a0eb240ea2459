
/-
  What the document's own encoder of messages computes.
-/
import Derived.Test.YtdpopdgeipgheaaWirL
import Derived.Test.YtdpopdgeipgheaaBtsRefRN
import Derived.Test.YtdpopdgeipgheaaBtsRefText
import Derived.Test.YtdpopdgeipgheaaCar
namespace Go.Proofs.Ytdpopdgeipgheaa
open Go.RowKit
set_option linter.unusedVariables false

/-- the reference's message's cells -/
def refCells (xs : List Int) (aL : Option Addr) (nL cL : Nat) (aD : Option Addr) (nD cD : Nat) : Array Value :=
  #[.int .i64 (Wi.nth xs 0), .int .i64 (Wi.nth xs 1), .int .i64 (Wi.nth xs 2), .int .i64 (Wi.nth xs 3), .int .i64 (Wi.nth xs 4), .int .i64 (Wi.nth xs 5), .int .i64 (Wi.nth xs 6), .int .i64 (Wi.nth xs 7), .int .i64 (Wi.nth xs 8), .slice aL nL cL, .slice aD nD cD]

theorem ref_size (xs : List Int) (aL : Option Addr) (nL cL : Nat) (aD : Option Addr) (nD cD : Nat) : (Try.prog.info? 35).map (·.size) = some (refCells xs aL nL cL aD nD cD).size := by
  rw [show (refCells xs aL nL cL aD nD cD).size = 11 by rfl]; kernel_rfl
theorem ref_one (xs : List Int) (aL : Option Addr) (nL cL : Nat) (aD : Option Addr) (nD cD : Nat) : (refCells xs aL nL cL aD nD cD).all (·.oneCell') = true := by
  simp [refCells, Value.oneCell']

set_option maxRecDepth 100000 in
set_option maxHeartbeats 1600000 in
theorem law15_plain (k : Int) (xs : List Int) (aL : Option Addr) (nL cL : Nat) (aD : Option Addr) (nD cD : Nat) (w : World) :
    Calls Try.prog 11 #[.agg (msgCells k xs aL nL cL aD nD cD)] w fun e w' => e = .returned (.agg (refCells xs aL nL cL aD nD cD)) ∧ Below w.heap.size w w' := by
  unfold msgCells
  go_enter Try.func11, Try.ntmps11
  go_wp2_with fail
  have e1 : (w.alloc (.cells (msgCells k xs aL nL cL aD nD cD) 25)).heap.size = w.heap.size + 1 := by simp
  have h2 := heap_alloc_new (w.alloc (.cells (msgCells k xs aL nL cL aD nD cD) 25)) (.cells (refCells xs aL nL cL aD nD cD) 35)
  rw [e1] at h2
  refine bodyPost_ret (v := .agg (refCells xs aL nL cL aD nD cD)) ?_ rfl ?_
  · exact results_cell_row (P := Try.prog) Try.results11 _ _ (w.heap.size + 1) 35 (refCells xs aL nL cL aD nD cD) (0, 0) _ rfl h2 Try.underlying35 rfl (ref_size _ _ _ _ _ _ _)
  · exact ⟨rfl, ((Below.refl _ _).alloc (Nat.le_refl _) _).alloc (by simp) _⟩

/-- what is held besides lies in certain blocks -/
def EOk {α : Type} (p : Nat → Prop) (E : Enc α) : Enc α where
  sz := E.sz
  rep ok w cs x := E.rep (fun b => ok b ∧ p b) w cs x
  len h := E.len h
  one h := E.one h
  mono h hk := E.mono h fun k hk1 hlt => ⟨(hk k hk1.1 hlt).1, (hk k hk1.1 hlt).2, hk1.2⟩
theorem Sl.eok {α : Type} {E : Enc α} {p ok : Nat → Prop} {w : World} {a : Option Addr} {l : List α} (h : Sl E p w a l) (hp : ∀ b, p b → ok b) : Sl (EOk p E) ok w a l := by
  intro k x hx
  obtain ⟨b, o, e, hb, cs, hr, hc⟩ := h k x hx
  exact ⟨b, o, e, hp b hb, cs, E.mono (w' := w) hr fun q hq _ => ⟨rfl, hp q hq, hq⟩, hc⟩
theorem Own.sl_ok {α : Type} {E : Enc α} {p : Nat → Prop} {te : TypeId} {base : Nat} {w : World} {a : Option Addr} {n c : Nat} {l : List α} (h : Own (EOk p E) te base w (.slice a n c) l) : Sl E (fun b => p b ∨ (base ≤ b ∧ b < w.heap.size)) w a l := by
  rcases h with ⟨h0, rfl⟩ | ⟨g, cap, cur, hv, hg, hh, k1, k2, k3, k4⟩
  · exact Sl.nil _ _ _ _
  · injection hv with e1 e2 e3
    subst e1
    intro k x hx
    obtain ⟨cs, hr, hc⟩ := k4 k x hx
    refine ⟨g, 0, rfl, .inr ⟨hg, (Array.getElem?_eq_some_iff.1 hh).1⟩, cs, E.mono (w' := w) hr fun q hq _ => ⟨rfl, .inl hq.2⟩, fun j v hj => ?_⟩
    have := hc j v hj
    simp [World.cell?, hh]
    exact this
theorem texts_start {B : Nat} {w : World} {aL aD : Option Addr} {L : List (List (BitVec 8))} {D : List (BitVec 8)} {cD : Nat} (hL : Sl EBytes (fun b => b < B) w aL L) (hD : Sl EU8 (fun b => b < B) w aD D) (hDc : D.length ≤ cD) (hDm : cD ≤ maxLen) (hB : B ≤ w.heap.size) :
    (Own (EOk (fun b => b < B) EBytes) 23 w.heap.size (w.drew.alloc (.cells #[] 23)) (.slice (some ⟨w.heap.size, 0, none⟩) 0 0) [] ∧ Sl (EOk (fun b => b < B) EBytes) (fun b => some b ≠ (Value.slice (some ⟨w.heap.size, 0, none⟩) 0 0).ownBlock) (w.drew.alloc (.cells #[] 23)) aL L) ∧
    (Own (EOk (fun b => b < B) EBytes) 23 w.heap.size ((w.drew.alloc (.cells #[.slice aD D.length cD] 23)).alloc (.cells #[] 23)) (.slice (some ⟨w.heap.size + 1, 0, none⟩) 0 0) [] ∧ Sl (EOk (fun b => b < B) EBytes) (fun b => some b ≠ (Value.slice (some ⟨w.heap.size + 1, 0, none⟩) 0 0).ownBlock) ((w.drew.alloc (.cells #[.slice aD D.length cD] 23)).alloc (.cells #[] 23)) aL L ∧
      ((w.drew.alloc (.cells #[.slice aD D.length cD] 23)).alloc (.cells #[] 23)).heap[w.heap.size]? = some (.cells #[.slice aD D.length cD] 23 (0, 0))) ∧
    (Own (EOk (fun b => b < B) EBytes) 23 w.heap.size ((w.drew.alloc (.cells #[] 23)).alloc (.cells #[.slice aD D.length cD] 23)) (.slice (some ⟨w.heap.size, 0, none⟩) 0 0) [] ∧ Sl (EOk (fun b => b < B) EBytes) (fun b => some b ≠ (Value.slice (some ⟨w.heap.size, 0, none⟩) 0 0).ownBlock) ((w.drew.alloc (.cells #[] 23)).alloc (.cells #[.slice aD D.length cD] 23)) aL L ∧
      ((w.drew.alloc (.cells #[] 23)).alloc (.cells #[.slice aD D.length cD] 23)).heap[w.heap.size + 1]? = some (.cells #[.slice aD D.length cD] 23 (0, 0))) := by
  have a1 : ∀ o : Obj, (w.drew.alloc o).heap.size = w.heap.size + 1 := fun o => by simp
  have b1 : ∀ o : Obj, Below w.heap.size w (w.drew.alloc o) := fun o => (Below.refl _ w).drew.alloc (Nat.le_refl _) o
  have b2 : ∀ o o' : Obj, Below w.heap.size w ((w.drew.alloc o).alloc o') := fun o o' => (b1 o).alloc (by rw [a1]; omega) o'
  have hS : ∀ (w' : World) (g : Nat), Below w.heap.size w w' → w.heap.size ≤ g → Sl (EOk (fun b => b < B) EBytes) (fun b => some b ≠ (Value.slice (some ⟨g, 0, none⟩) 0 0).ownBlock) w' aL L := fun w' g hb hg =>
    (hL.below (by decide) hb).eok fun q hq e => by simp [Value.ownBlock] at e; omega
  refine ⟨⟨own_empty (EOk (fun b => b < B) EBytes) 23 w.drew (show 0 < EBytes.sz by decide), hS _ _ (b1 _) (Nat.le_refl _)⟩, ⟨?_, hS _ _ (b2 _ _) (by omega), ?_⟩, ⟨?_, hS _ _ (b2 _ _) (Nat.le_refl _), ?_⟩⟩
  · have h := own_empty (EOk (fun b => b < B) EBytes) 23 (w.drew.alloc (.cells #[.slice aD D.length cD] 23)) (show 0 < EBytes.sz by decide)
    rw [a1] at h
    exact h.base (by omega)
  · rw [heap_alloc_old _ _ (by rw [a1]; omega)]; exact heap_alloc_new w.drew _
  · exact (own_empty (EOk (fun b => b < B) EBytes) 23 w.drew (show 0 < EBytes.sz by decide)).below ((Below.refl _ _).alloc (Nat.le_refl _) _)
  · have h := heap_alloc_new (w.drew.alloc (.cells #[] 23)) (.cells #[.slice aD D.length cD] 23)
    rw [a1] at h
    exact h
/-- the data as one more text -/
theorem own_ne {v v4 : Value} {w : World} {d : Nat} (hv : v4.ownBlock = v.ownBlock ∨ ∃ g, v4.ownBlock = some g ∧ w.heap.size ≤ g) (h1 : some d ≠ v.ownBlock) (h2 : d < w.heap.size) : some d ≠ v4.ownBlock := by
  rcases hv with e | ⟨g, e, hg⟩
  · rw [e]; exact h1
  · rw [e]; intro e2; injection e2 with e2; omega
theorem texts_item {B : Nat} {w w4 : World} {v4 : Value} {aD : Option Addr} {D : List (BitVec 8)} {cD d : Nat} (hD : Sl EU8 (fun b => b < B) w aD D) (hDc : D.length ≤ cD) (hDm : cD ≤ maxLen) (hB : B ≤ w.heap.size)
    (h4 : w4.heap[d]? = some (.cells #[.slice aD D.length cD] 23 (0, 0))) (hb : Below w.heap.size w w4) (hd : some d ≠ v4.ownBlock) (hv : ∀ q, v4.ownBlock = some q → w.heap.size ≤ q) :
    Sl (EOk (fun b => b < B) EBytes) (fun b => some b ≠ v4.ownBlock) w4 (some ⟨d, 0, none⟩) [D] :=
  sl_one h4 ⟨aD, cD, rfl, hDc, hDm, hD.mono (by decide) fun q hq hlt => ⟨hb.block q hlt, fun e => by have := hv q e.symm; omega, hq⟩⟩ hd

/-- bytes that are gathered: what was there besides is kept -/
structure Gth (v0 : Value) (w0 : World) (v : Value) (w : World) : Prop where
  only : Only (fun k => v0.ownBlock = some k) w0 w
  own : v.ownBlock = v0.ownBlock ∨ ∃ h, v.ownBlock = some h ∧ w0.heap.size ≤ h
theorem Gth.refl (v : Value) (w : World) : Gth v w v w := ⟨Only.refl _ _, .inl rfl⟩
theorem Gth.below {v0 v : Value} {w0 w w' : World} (h : Gth v0 w0 v w) (hb : Below w.heap.size w w') : Gth v0 w0 v w' := ⟨h.only.trans (Below.only hb) fun _ _ h => h, h.own⟩
theorem Gth.app {v0 v v' : Value} {w0 w w' : World} (h : Gth v0 w0 v w) (hg : w.grownBy w' v.ownBlock) (hv : v'.ownBlock = v.ownBlock ∨ ∃ g, v'.ownBlock = some g ∧ w.heap.size ≤ g) : Gth v0 w0 v' w' := by
  refine ⟨h.only.trans (T := fun k => v.ownBlock = some k) ⟨hg.os, hg.tape, hg.output, hg.size, fun k hk hn => hg.block k hk fun e => hn e.symm⟩ fun k hk e => ?_, ?_⟩
  · rcases h.own with e2 | ⟨g, e2, hge⟩
    · rw [← e2]; exact e
    · rw [e2] at e; injection e with e; omega
  · rcases hv with e | ⟨g, e, hge⟩
    · rw [e]; exact h.own
    · exact .inr ⟨g, e, Nat.le_trans h.only.size hge⟩

/-- what a callee hands over, to be appended to what was gathered -/
theorem gather {G : Nat} {w0 w w1 : World} {v v1 : Value} {l l1 : List (BitVec 8)} (h : Own EU8 5 G w v l) (hb : Below w.heap.size w w1) (h1 : Own EU8 5 w.heap.size w1 v1 l1) (h0 : Below G w0 w) (hG : G ≤ w.heap.size) :
    ∃ a c, v1 = .slice a l1.length c ∧ Sl EU8 (fun b => some b ≠ v.ownBlock) w1 a l1 ∧ Own EU8 5 G w1 v l ∧ Below G w0 w1 := by
  obtain ⟨a, c, rfl, hc, hm, hr, ho⟩ := h1.shape l1.length rfl
  exact ⟨a, c, rfl, ho.slB.mono (by decide) fun q hq _ => ⟨rfl, fun e => by have := (h.lt q e.symm).2; omega⟩, h.below hb, h0.trans (hb.mono hG)⟩

theorem idx9_0 (xs : List Int) (W : World) : (Instr.index 33 (.agg #[.int .i64 (Wi.nth xs 0), .int .i64 (Wi.nth xs 1), .int .i64 (Wi.nth xs 2), .int .i64 (Wi.nth xs 3), .int .i64 (Wi.nth xs 4), .int .i64 (Wi.nth xs 5), .int .i64 (Wi.nth xs 6), .int .i64 (Wi.nth xs 7), .int .i64 (Wi.nth xs 8)]) (.int .i64 0)).run Try.prog W = .ok (.int .i64 (Wi.nth xs 0)) W := by kernel_rfl
theorem idx9_1 (xs : List Int) (W : World) : (Instr.index 33 (.agg #[.int .i64 (Wi.nth xs 0), .int .i64 (Wi.nth xs 1), .int .i64 (Wi.nth xs 2), .int .i64 (Wi.nth xs 3), .int .i64 (Wi.nth xs 4), .int .i64 (Wi.nth xs 5), .int .i64 (Wi.nth xs 6), .int .i64 (Wi.nth xs 7), .int .i64 (Wi.nth xs 8)]) (.int .i64 1)).run Try.prog W = .ok (.int .i64 (Wi.nth xs 1)) W := by kernel_rfl
theorem idx9_2 (xs : List Int) (W : World) : (Instr.index 33 (.agg #[.int .i64 (Wi.nth xs 0), .int .i64 (Wi.nth xs 1), .int .i64 (Wi.nth xs 2), .int .i64 (Wi.nth xs 3), .int .i64 (Wi.nth xs 4), .int .i64 (Wi.nth xs 5), .int .i64 (Wi.nth xs 6), .int .i64 (Wi.nth xs 7), .int .i64 (Wi.nth xs 8)]) (.int .i64 2)).run Try.prog W = .ok (.int .i64 (Wi.nth xs 2)) W := by kernel_rfl
theorem idx9_3 (xs : List Int) (W : World) : (Instr.index 33 (.agg #[.int .i64 (Wi.nth xs 0), .int .i64 (Wi.nth xs 1), .int .i64 (Wi.nth xs 2), .int .i64 (Wi.nth xs 3), .int .i64 (Wi.nth xs 4), .int .i64 (Wi.nth xs 5), .int .i64 (Wi.nth xs 6), .int .i64 (Wi.nth xs 7), .int .i64 (Wi.nth xs 8)]) (.int .i64 3)).run Try.prog W = .ok (.int .i64 (Wi.nth xs 3)) W := by kernel_rfl
theorem idx9_4 (xs : List Int) (W : World) : (Instr.index 33 (.agg #[.int .i64 (Wi.nth xs 0), .int .i64 (Wi.nth xs 1), .int .i64 (Wi.nth xs 2), .int .i64 (Wi.nth xs 3), .int .i64 (Wi.nth xs 4), .int .i64 (Wi.nth xs 5), .int .i64 (Wi.nth xs 6), .int .i64 (Wi.nth xs 7), .int .i64 (Wi.nth xs 8)]) (.int .i64 4)).run Try.prog W = .ok (.int .i64 (Wi.nth xs 4)) W := by kernel_rfl
theorem idx9_5 (xs : List Int) (W : World) : (Instr.index 33 (.agg #[.int .i64 (Wi.nth xs 0), .int .i64 (Wi.nth xs 1), .int .i64 (Wi.nth xs 2), .int .i64 (Wi.nth xs 3), .int .i64 (Wi.nth xs 4), .int .i64 (Wi.nth xs 5), .int .i64 (Wi.nth xs 6), .int .i64 (Wi.nth xs 7), .int .i64 (Wi.nth xs 8)]) (.int .i64 5)).run Try.prog W = .ok (.int .i64 (Wi.nth xs 5)) W := by kernel_rfl
theorem idx9_6 (xs : List Int) (W : World) : (Instr.index 33 (.agg #[.int .i64 (Wi.nth xs 0), .int .i64 (Wi.nth xs 1), .int .i64 (Wi.nth xs 2), .int .i64 (Wi.nth xs 3), .int .i64 (Wi.nth xs 4), .int .i64 (Wi.nth xs 5), .int .i64 (Wi.nth xs 6), .int .i64 (Wi.nth xs 7), .int .i64 (Wi.nth xs 8)]) (.int .i64 6)).run Try.prog W = .ok (.int .i64 (Wi.nth xs 6)) W := by kernel_rfl
theorem idx9_7 (xs : List Int) (W : World) : (Instr.index 33 (.agg #[.int .i64 (Wi.nth xs 0), .int .i64 (Wi.nth xs 1), .int .i64 (Wi.nth xs 2), .int .i64 (Wi.nth xs 3), .int .i64 (Wi.nth xs 4), .int .i64 (Wi.nth xs 5), .int .i64 (Wi.nth xs 6), .int .i64 (Wi.nth xs 7), .int .i64 (Wi.nth xs 8)]) (.int .i64 7)).run Try.prog W = .ok (.int .i64 (Wi.nth xs 7)) W := by kernel_rfl
theorem idx9_8 (xs : List Int) (W : World) : (Instr.index 33 (.agg #[.int .i64 (Wi.nth xs 0), .int .i64 (Wi.nth xs 1), .int .i64 (Wi.nth xs 2), .int .i64 (Wi.nth xs 3), .int .i64 (Wi.nth xs 4), .int .i64 (Wi.nth xs 5), .int .i64 (Wi.nth xs 6), .int .i64 (Wi.nth xs 7), .int .i64 (Wi.nth xs 8)]) (.int .i64 8)).run Try.prog W = .ok (.int .i64 (Wi.nth xs 8)) W := by kernel_rfl
theorem idx9 (xs : List Int) (j : Nat) (h : j < 9) (W : World) : (Instr.index 33 (.agg #[.int .i64 (Wi.nth xs 0), .int .i64 (Wi.nth xs 1), .int .i64 (Wi.nth xs 2), .int .i64 (Wi.nth xs 3), .int .i64 (Wi.nth xs 4), .int .i64 (Wi.nth xs 5), .int .i64 (Wi.nth xs 6), .int .i64 (Wi.nth xs 7), .int .i64 (Wi.nth xs 8)]) (.int .i64 (j : Int))).run Try.prog W = .ok (.int .i64 (Wi.nth xs j)) W := by
  have e : j = 0 ∨ j = 1 ∨ j = 2 ∨ j = 3 ∨ j = 4 ∨ j = 5 ∨ j = 6 ∨ j = 7 ∨ j = 8 := by omega
  rcases e with rfl | rfl | rfl | rfl | rfl | rfl | rfl | rfl | rfl
  · exact idx9_0 xs W
  · exact idx9_1 xs W
  · exact idx9_2 xs W
  · exact idx9_3 xs W
  · exact idx9_4 xs W
  · exact idx9_5 xs W
  · exact idx9_6 xs W
  · exact idx9_7 xs W
  · exact idx9_8 xs W

set_option maxRecDepth 100000 in
set_option maxHeartbeats 3200000 in
theorem ref15_Inside (B : Nat) (xs : List Int) (aL : Option Addr) (nL cL : Nat) (L : List (List (BitVec 8))) (aD : Option Addr) (nD cD : Nat) (D : List (BitVec 8)) (w : World) (hB : w.heap.size = B) (hx : xs.length = 9) (hL : RS EBytes w aL nL L) (hD : RB w aD nD D) (hDc : nD ≤ cD) (hDm : cD ≤ maxLen) :
    Calls Try.prog 10 #[.agg (refCells xs aL nL cL aD nD cD)] w fun e w' => ∃ v, e = .returned (.tuple #[v, .int .i64 (Wi.inErr (xs, L, D))]) ∧ Own EU8 5 B w' v (Wi.inOut (xs, L, D)) ∧ Below B w w' := by
  obtain ⟨rfl, hLs⟩ := hL
  obtain ⟨rfl, hDs⟩ := hD
  obtain ⟨er, her⟩ : ∃ x, x = Wi.inErr (xs, L, D) := ⟨_, rfl⟩
  obtain ⟨out, hout⟩ : ∃ x, x = Wi.inOut (xs, L, D) := ⟨_, rfl⟩
  rw [← her, ← hout]
  have hfail : ∀ e : Int, er = e → e ≠ 0 → out = [] := fun e h h0 => by rw [hout]; unfold Wi.inOut; rw [if_neg (by rw [← her, h]; exact h0)]
  have Hfail := Lib.hid hfail
  have Her := Lib.hid her
  have Hout := Lib.hid hout
  have HB := Lib.hid hB
  obtain ⟨w1, hw1⟩ : ∃ x, x = w.alloc (.cells (refCells xs aL L.length cL aD D.length cD) 35) := ⟨_, rfl⟩
  have hh1 : w1.heap[B]? = some (.cells (refCells xs aL L.length cL aD D.length cD) 35 (0, 0)) := by subst hw1; subst hB; exact heap_alloc_new w _
  have hb1 : Below B w w1 := by subst hw1; subst hB; exact (Below.refl _ _).alloc (Nat.le_refl _) _
  have hn1 : w1.heap.size = B + 1 := by subst hw1; subst hB; simp
  have Hh1 := Lib.hid hh1
  have hL1 : Sl EBytes (fun b => b < B) w1 aL L := hLs.mono (by decide) fun q _ hq => ⟨hb1.block q (by omega), by omega⟩
  have hD1 : Sl EU8 (fun b => b < B) w1 aD D := hDs.mono (by decide) fun q _ hq => ⟨hb1.block q (by omega), by omega⟩
  have HL1 := Lib.hid hL1
  have HD1 := Lib.hid hD1
  clear her hout hfail hh1 hLs hDs hL1 hD1
  unfold refCells at hw1 ⊢
  go_enter Try.func10, Try.ntmps10
  go_upto_region 1 with fail
  rw [← hw1]
  clear hw1 hB
  have z0 : w1.cell? ⟨B, 0, none⟩ = some (.int .i64 (Wi.nth xs 0)) := by simp [World.cell?, Hh1.out, refCells]
  have z1 : w1.cell? ⟨B, 1, none⟩ = some (.int .i64 (Wi.nth xs 1)) := by simp [World.cell?, Hh1.out, refCells]
  have z2 : w1.cell? ⟨B, 2, none⟩ = some (.int .i64 (Wi.nth xs 2)) := by simp [World.cell?, Hh1.out, refCells]
  have z3 : w1.cell? ⟨B, 3, none⟩ = some (.int .i64 (Wi.nth xs 3)) := by simp [World.cell?, Hh1.out, refCells]
  have z4 : w1.cell? ⟨B, 4, none⟩ = some (.int .i64 (Wi.nth xs 4)) := by simp [World.cell?, Hh1.out, refCells]
  have z5 : w1.cell? ⟨B, 5, none⟩ = some (.int .i64 (Wi.nth xs 5)) := by simp [World.cell?, Hh1.out, refCells]
  have z6 : w1.cell? ⟨B, 6, none⟩ = some (.int .i64 (Wi.nth xs 6)) := by simp [World.cell?, Hh1.out, refCells]
  have z7 : w1.cell? ⟨B, 7, none⟩ = some (.int .i64 (Wi.nth xs 7)) := by simp [World.cell?, Hh1.out, refCells]
  have z8 : w1.cell? ⟨B, 8, none⟩ = some (.int .i64 (Wi.nth xs 8)) := by simp [World.cell?, Hh1.out, refCells]
  have ho1 := own_empty EU8 5 w1 (by decide)
  have hb2 : Below w1.heap.size w1 (w1.alloc (.cells #[] 5)) := (Below.refl _ _).alloc (Nat.le_refl _) _
  have y0 := cell_thru z0 hb2
  have y1 := cell_thru z1 hb2
  have y2 := cell_thru z2 hb2
  have y3 := cell_thru z3 hb2
  have y4 := cell_thru z4 hb2
  have y5 := cell_thru z5 hb2
  have y6 := cell_thru z6 hb2
  have y7 := cell_thru z7 hb2
  have y8 := cell_thru z8 hb2
  clear z0 z1 z2 z3 z4 z5 z6 z7 z8
  go_wp2_with fail
  obtain ⟨w2, hw2⟩ : ∃ x, x = w1.alloc (.cells #[] 5) := ⟨_, rfl⟩
  rw [← hw2] at ho1 hb2 ⊢
  rw [hn1] at ho1 hb2
  have Hb2 := Lib.hid hb2
  have Hn1 := Lib.hid hn1
  have Hx := Lib.hid hx
  clear y0 y1 y2 y3 y4 y5 y6 y7 y8 hw2 hx
  go_loopw [4, 13] (fun v i wr => ∃ j : Nat, j ≤ 9 ∧ i = .int .i64 j ∧ (∀ y ∈ xs.take j, Wi.numOk y) ∧ Own EU8 5 (B + 1) wr v (Bts.asB (Wi.numsBits (xs.take j))) ∧ Below (B + 1) w1 wr) (fun _ i _ => 9 - (intOf i).toNat)
  case atStart => exact ⟨0, Nat.zero_le _, rfl, by simp, by simpa [Wi.numsBits, Bts.asB] using ho1, Hb2.out⟩
  case round =>
    obtain ⟨j, hj, rfl, hall, ho, hb⟩ := hrel
    clear ho1 hb2
    have hbw : Below B w wr := hb1.trans (hb.mono (by omega))
    have hszr : B + 1 ≤ wr.heap.size := by have := hb.size; omega
    have Hb := Lib.hid hb
    clear hb hn1
    by_cases hlt : j < 9
    · have hji : (j : Int) < 9 := by omega
      have hj0 : (0 : Int) ≤ (j : Int) := by omega
      have har := idx9 xs j hlt
      have hsn := Wi.numsBits_snoc xs j (by rw [Hx.out]; exact hlt)
      have htk : xs.take (j + 1) = xs.take j ++ [xs[j]'(by rw [Hx.out]; exact hlt)] := (List.take_append_getElem (by rw [Hx.out]; exact hlt)).symm
      rw [← Wi.nth_get] at hsn htk
      have hmem : Wi.nth xs j ∈ xs := by rw [Wi.nth_get xs j (by rw [Hx.out]; exact hlt)]; exact List.getElem_mem _
      have hlen : (Bts.asB (Wi.numsBits (xs.take j))).length ≤ 2000 := by
        have := Wi.numsBits_len (xs.take j)
        rw [List.length_take] at this
        rw [Bts.asB_len]
        omega
      obtain ⟨y, hy⟩ : ∃ y, y = Wi.nth xs j := ⟨_, rfl⟩
      rw [← hy] at har hsn htk hmem
      have Hsn := Lib.hid hsn
      have Htk := Lib.hid htk
      have Hmem := Lib.hid hmem
      have Hall := Lib.hid hall
      clear hsn htk hmem hall hy
      by_cases y0 : y < 0
      · have he : er = 1 := by
          rw [Her.out]; unfold Wi.inErr; rw [if_neg fun h => by have := (h y Hmem.out).1; omega]
        have ho := Hfail.out 1 he (by decide)
        subst he
        subst ho
        go_wp2_with fail
        refine bodyPost_ret (v := .tuple #[.slice none 0 0, .int .i64 1]) (by simp [results, Try.results10, go_sem]) rfl ?_
        exact ⟨_, rfl, Own.nil _ _ _ _, hbw⟩
      by_cases y1 : 1099511627776 < y
      · have he : er = 1 := by
          rw [Her.out]; unfold Wi.inErr; rw [if_neg fun h => by have := (h y Hmem.out).2; omega]
        have ho := Hfail.out 1 he (by decide)
        subst he
        subst ho
        go_wp2_with fail
        refine bodyPost_ret (v := .tuple #[.slice none 0 0, .int .i64 1]) (by simp [results, Try.results10, go_sem]) rfl ?_
        exact ⟨_, rfl, Own.nil _ _ _ _, hbw⟩
      have hall' : ∀ z ∈ xs.take (j + 1), Wi.numOk z := by
        rw [Htk.out]
        intro z hz
        rcases List.mem_append.1 hz with hz | hz
        · exact Hall.out z hz
        · rw [List.mem_singleton.1 hz]; exact ⟨by omega, by omega⟩
      have Hall' := Lib.hid hall'
      clear hall'
      go_wp2_with fail
      refine (ref_Num (BitVec.ofInt 64 y) wr.heap.size _ (by rfl)).mono ?_
      rintro e w5 ⟨v5, rfl, ho5, hb5⟩
      obtain ⟨a5, c5, rfl, hsl5, ho6, hb6⟩ := gather ho hb5 ho5 Hb.out hszr
      have hN := num_asB (BitVec.ofInt 64 y)
      have Hb6 := Lib.hid hb6
      have hs5 : B + 1 ≤ w5.heap.size := Nat.le_trans hszr hb5.size
      clear ho ho5 hb5 hb6
      go_wp2_with (first
        | (refine wpList_app EU8 rfl rfl (by rfl) (by rfl) ti_bytes ho6 rfl hsl5 (by unfold maxLen; omega) (by omega) hs5 ?_
           intro v7 w7 ho7 hg7 hv7 hb7))
      have hown : Own EU8 5 (B + 1) w7 v7 (Bts.asB (Wi.numsBits (xs.take (j + 1)))) := by
        rw [Hsn.out, Bts.asB_app]; exact ho7
      have hb17 := Hb6.out.trans hb7
      have Hown := Lib.hid hown
      have Hb17 := Lib.hid hb17
      clear hown hb17 ho7 hb7
      go_roundw
      case rel => exact ⟨j + 1, by omega, by go_num, Hall'.out, Hown.out, Hb17.out⟩
      case measure => simp [intOf]; omega
    · have hji : ¬ ((j : Int) < 9) := by omega
      have htk : xs.take j = xs := List.take_of_length_le (by rw [Hx.out]; omega)
      rw [htk] at hall ho
      have hlN : (Bts.asB (Wi.numsBits xs)).length ≤ 9 * 129 := by
        have := Wi.numsBits_len xs
        rw [Hx.out] at this
        rw [Bts.asB_len]; exact this
      have hhr : wr.heap[B]? = some (.cells (refCells xs aL L.length cL aD D.length cD) 35 (0, 0)) := by rw [Hb.out.block B (by omega)]; exact Hh1.out
      have l9 : wr.cell? ⟨B, 9, none⟩ = some (.slice aL L.length cL) := by simp [World.cell?, hhr, refCells]
      have l10 : wr.cell? ⟨B, 10, none⟩ = some (.slice aD D.length cD) := by simp [World.cell?, hhr, refCells]
      have HallN := Lib.hid hall
      clear hall htk hhr
      by_cases h2 : 2000 < L.length
      · have h2' : 2000 < (L.length : Int) := by omega
        have he : er = 4 := by
          rw [Her.out]; unfold Wi.inErr; rw [if_pos HallN.out, if_pos h2]
        have ho := Hfail.out 4 he (by decide)
        subst he
        subst ho
        go_wp2_with fail
        refine bodyPost_ret (v := .tuple #[.slice none 0 0, .int .i64 4]) (by simp [results, Try.results10, go_sem]) rfl ?_
        exact ⟨_, rfl, Own.nil _ _ _ _, hbw⟩
      have h2' : ¬ (2000 < (L.length : Int)) := by omega
      obtain ⟨N, hN⟩ : ∃ N, N = Wi.numsBits xs := ⟨_, rfl⟩
      rw [← hN] at ho hlN
      have HN := Lib.hid hN
      clear hN h2
      go_wp2_with fail
      refine (ref_Num (BitVec.ofInt 64 L.length) wr.heap.size _ (by rfl)).mono ?_
      rintro e w5 ⟨v5, rfl, ho5, hb5⟩
      obtain ⟨a5, c5, rfl, hsl5, ho6, hb6⟩ := gather ho hb5 ho5 Hb.out hszr
      have m9 := cell_thru l9 hb5
      have m10 := cell_thru l10 hb5
      have hN1 := num_asB (BitVec.ofInt 64 L.length)
      have Hb6 := Lib.hid hb6
      have hs5 : B + 1 ≤ w5.heap.size := Nat.le_trans hszr hb5.size
      clear ho ho5 hb5 hb6 l9 l10
      go_wp2_with (first
        | (refine wpList_app EU8 rfl rfl (by rfl) (by rfl) ti_bytes ho6 rfl hsl5 (by unfold maxLen; omega) (by omega) hs5 ?_
           intro v7 w7 ho7 hg7 hv7 hb7
           have n9 := (hb7.cell (p := ⟨B, 9, none⟩) (Nat.lt_succ_self B)).trans m9
           have n10 := (hb7.cell (p := ⟨B, 10, none⟩) (Nat.lt_succ_self B)).trans m10))
      have hown7 : Own EU8 5 (B + 1) w7 v7 (Bts.asB (N ++ Bts.num (BitVec.ofInt 64 L.length))) := by rw [Bts.asB_app]; exact ho7
      have hb17 := Hb6.out.trans hb7
      have hLB : Sl EBytes (fun b => b < B) w7 aL L := HL1.out.mono (by decide) fun q hq _ => ⟨hb17.block q (by omega), hq⟩
      have hDB : Sl EU8 (fun b => b < B) w7 aD D := HD1.out.mono (by decide) fun q hq _ => ⟨hb17.block q (by omega), hq⟩
      have hs7 : B + 1 ≤ w7.heap.size := Nat.le_trans hs5 hb7.size
      obtain ⟨N2, hN2⟩ : ∃ N2, N2 = N ++ Bts.num (BitVec.ofInt 64 L.length) := ⟨_, rfl⟩
      have hlN2 : (Bts.asB N2).length ≤ 2000 := by rw [hN2, Bts.asB_app, List.length_append]; omega
      rw [← hN2] at hown7
      have HN2 := Lib.hid hN2
      obtain ⟨T1, T2, T3⟩ := texts_start (w := w7) hLB hDB hDc hDm (by omega)
      have HT1 := Lib.hid T1
      have HT2 := Lib.hid T2
      have HT3 := Lib.hid T3
      have hLm : ([] : List (List (BitVec 8))).length + L.length ≤ maxLen := by unfold maxLen; simp; omega
      have hLy : (([] : List (List (BitVec 8))).length + L.length) * 24 ≤ 140737488355328 := by simp; omega
      have hLm2 : L.length + [D].length ≤ maxLen := by unfold maxLen; simp; omega
      have hLy2 : (L.length + [D].length) * 24 ≤ 140737488355328 := by simp; omega
      have Hm1 := Lib.hid hLm
      have Hm2 := Lib.hid hLy
      have Hm3 := Lib.hid hLm2
      have Hm4 := Lib.hid hLy2
      have HDB := Lib.hid hDB
      have hbz : B ≤ w7.heap.size := by omega
      clear ho7 hg7 hv7 hb7 hsl5 ho6 m9 m10 hN2 T1 T2 T3 hLm hLy hLm2 hLy2 hLB hDB
      go_upto_region 12 with fail
      have p9 : w7.drew.cell? ⟨B, 9, none⟩ = some (.slice aL L.length cL) := n9
      have p10 : w7.drew.cell? ⟨B, 10, none⟩ = some (.slice aD D.length cD) := n10
      go_region_held3 (fun W => W.cell? ⟨B, 9, none⟩ = some (.slice aL L.length cL) ∧ W.cell? ⟨B, 10, none⟩ = some (.slice aD D.length cD))
        (first | go_keep | exact ⟨cell_thru n9 hx4, cell_thru n10 hx4⟩ | exact ⟨cell_thru (cell_thru n9 hx4) ((Below.refl _ _).alloc (Nat.le_refl _) _), cell_thru (cell_thru n10 hx4) ((Below.refl _ _).alloc (Nat.le_refl _) _)⟩ | exact ⟨cell_thru n9 hx5, cell_thru n10 hx5⟩)
        (first
          | (refine step_app (l := []) (l2 := L) (base := w7.heap.size) (EOk (fun b => b < B) EBytes) (by rfl) (by rfl) (by rfl) ti_texts HT1.out.1 rfl HT1.out.2 Hm1.out Hm2.out (by simp) ?_; intro v4 w4 ho4 hg4 hv4 hb4; have hx4 : Below w7.heap.size w7 w4 := ((Below.refl _ w7).drew.alloc (Nat.le_refl _) _).trans hb4)
          | (refine step_app (l := []) (l2 := L) (base := w7.heap.size) (EOk (fun b => b < B) EBytes) (by rfl) (by rfl) (by rfl) ti_texts HT2.out.1 rfl HT2.out.2.1 Hm1.out Hm2.out (by simp; omega) ?_; intro v4 w4 ho4 hg4 hv4 hb4; have hx4 : Below w7.heap.size w7 w4 := (((Below.refl _ w7).drew.alloc (Nat.le_refl _) _).alloc (by simp) _).trans hb4; have h4D := (hg4.block w7.heap.size (by simp; omega) (by simp [Value.ownBlock])).trans HT2.out.2.2; have hne4 : some w7.heap.size ≠ v4.ownBlock := own_ne hv4 (by simp [Value.ownBlock]) (by simp; omega))
          | (refine step_app (l := []) (l2 := L) (base := w7.heap.size) (EOk (fun b => b < B) EBytes) (by rfl) (by rfl) (by rfl) ti_texts HT3.out.1 rfl HT3.out.2.1 Hm1.out Hm2.out (by simp; omega) ?_; intro v4 w4 ho4 hg4 hv4 hb4; have hx4 : Below w7.heap.size w7 w4 := (((Below.refl _ w7).drew.alloc (Nat.le_refl _) _).alloc (by simp) _).trans hb4; have h4D := (hg4.block (w7.heap.size + 1) (by simp) (by simp [Value.ownBlock])).trans HT3.out.2.2; have hne4 : some (w7.heap.size + 1) ≠ v4.ownBlock := own_ne hv4 (by simp [Value.ownBlock]) (by simp))
          | (refine step_app (l := L) (l2 := [D]) (base := w7.heap.size) (EOk (fun b => b < B) EBytes) (by rfl) (by rfl) (by rfl) ti_texts (ho4.below ((Below.refl _ w4).alloc (Nat.le_refl _) (.cells #[.slice aD D.length cD] 23))) rfl (texts_item HDB.out hDc hDm hbz (heap_alloc_new w4 _) (hx4.alloc hx4.size _) ho4.fresh (fun q e => (ho4.lt q e).1)) Hm3.out Hm4.out (by have := hx4.size; simp; omega) ?_; intro v5 w5 ho5 hg5 hv5 hb5; have hx5 : Below w7.heap.size w7 w5 := (hx4.alloc hx4.size _).trans hb5)
          | (refine step_app (l := L) (l2 := [D]) (base := w7.heap.size) (EOk (fun b => b < B) EBytes) (by rfl) (by rfl) (by rfl) ti_texts ho4 rfl (texts_item HDB.out hDc hDm hbz h4D hx4 hne4 (fun q e => (ho4.lt q e).1)) Hm3.out Hm4.out hx4.size ?_; intro v5 w5 ho5 hg5 hv5 hb5; have hx5 : Below w7.heap.size w7 w5 := hx4.trans hb5))
      all_goals
        obtain ⟨aT, cT, rfl, hcT, hmT, _, hoT⟩ := ho5.shape (L.length + 1) (by simp)
        have hTs := hoT.sl_ok
        have hown5 : Own EU8 5 (B + 1) w5 v7 (Bts.asB N2) := hown7.below hx5
        obtain ⟨T, hT⟩ : ∃ T, T = L ++ [D] := ⟨_, rfl⟩
        obtain ⟨n, hn⟩ : ∃ n, n = L.length + 1 := ⟨_, rfl⟩
        rw [← hT] at hTs
        have hTl : T.length = n := by rw [hT, hn]; simp
        have hv7 : ∀ q, v7.ownBlock = some q → B + 1 ≤ q ∧ q < w7.heap.size := hown7.lt
        have hokS : ∀ q, (q < B ∨ (w7.heap.size ≤ q ∧ q < w5.heap.size)) → ¬ (v7.ownBlock = some q) := by
          intro q hq e
          have := hv7 q e
          omega
        have hb15 := hb17.trans (hx5.mono hs7)
        have hs5 := hx5.size
        have HT := Lib.hid hT
        have HTl := Lib.hid hTl
        have Hv7 := Lib.hid hv7
        have HokS := Lib.hid hokS
        have HTs := Lib.hid hTs
        have Hb15 := Lib.hid hb15
        have Hn := Lib.hid hn
        have hn1 : n ≤ 2001 := by omega
        have hBw5 : B + 1 ≤ w5.heap.size := by omega
        rw [← hn]
        clear ho5 hg5 hv5 hb5 hoT hTs hown7 hT hn hTl hv7 hokS hb15 hx5 hx4 ho4 hg4 hv4 hb4 p9 p10 n9 n10
        go_wp2_with fail
        go_loopw [4, 49] (fun v i wr => ∃ j : Nat, j ≤ n ∧ i = .int .i64 j ∧ (∀ b ∈ T.take j, Wi.textOk b) ∧ Own EU8 5 (B + 1) wr v (Bts.asB (N2 ++ Wi.textsBits (T.take j))) ∧ Gth v7 w5 v wr ∧ Below (B + 1) w1 wr) (fun _ i _ => n - (intOf i).toNat)
        case atStart => exact ⟨0, Nat.zero_le _, rfl, by simp, by simpa [Wi.textsBits] using hown5, Gth.refl _ _, Hb15.out⟩
        case round =>
          clear hown5
          obtain ⟨j, hj, rfl, hall, ho, hg, hb⟩ := hrel
          have hbw : Below B w wr := hb1.trans (hb.mono (by omega))
          have hszr : B + 1 ≤ wr.heap.size := Nat.le_trans hBw5 hg.only.size
          have hlen : (Bts.asB (N2 ++ Wi.textsBits (T.take j))).length ≤ 2000 + 2001 * 32129 := by
            have h1 := Wi.textsBits_len (T.take j) 4000 hall
            have h3 : (T.take j).length ≤ 2001 := by rw [List.length_take]; omega
            have h4 : (T.take j).length * (129 + 8 * 4000) ≤ 2001 * 32129 := Nat.mul_le_mul_right _ h3
            rw [Bts.asB_len] at hlN2
            rw [Bts.asB_len, List.length_append]; omega
          by_cases hlt : j < n
          · have hji : (j : Int) < (n : Int) := by omega
            obtain ⟨b1, o1, a', c', e1, p7, hc', hm', hs'⟩ := sl_text HTs.out j (by rw [HTl.out]; exact hlt)
            have hbT : b1 < B ∨ (w7.heap.size ≤ b1 ∧ b1 < w5.heap.size) := by
              obtain ⟨b2, o2, e2, hb2, _⟩ := HTs.out j _ (List.getElem?_eq_getElem (by rw [HTl.out]; exact hlt))
              rw [e1] at e2
              injection e2 with e2; injection e2 with e2 e3
              rw [e2]; exact hb2
            have p1 := (cell_keep (hg.only.block _ (cell_lt p7) (HokS.out _ hbT))).trans p7
            subst e1
            have hsr := hs'.mono (by decide) (ok' := fun _ => True) fun q hq hlt => ⟨hg.only.block q hlt (HokS.out q hq), trivial⟩
            have hsn := Wi.textsBits_snoc T j (by rw [HTl.out]; exact hlt)
            have htk : T.take (j + 1) = T.take j ++ [T[j]'(by rw [HTl.out]; exact hlt)] := (List.take_append_getElem (by rw [HTl.out]; exact hlt)).symm
            have hmem : T[j]'(by rw [HTl.out]; exact hlt) ∈ T := List.getElem_mem _
            obtain ⟨b, hbe⟩ : ∃ b, b = T[j]'(by rw [HTl.out]; exact hlt) := ⟨_, rfl⟩
            rw [← hbe] at p1 hc' hs' hsr hsn htk hmem
            clear p7
            have Hsn := Lib.hid hsn
            have Htk := Lib.hid htk
            have Hmem := Lib.hid hmem
            have Hall := Lib.hid hall
            have Hsr := Lib.hid hsr
            have Hs5 := Lib.hid hs'
            have Hg := Lib.hid hg
            have Hb := Lib.hid hb
            clear hsn htk hmem hall hbe hs' hsr hg hb hbT
            by_cases h4 : 4000 < b.length
            · have h4' : 4000 < (b.length : Int) := by omega
              have he : er = 3 := by
                rw [Her.out]
                have hb3 : ¬ ∀ b ∈ L ++ [D], Wi.textOk b := fun h => by have := h b (by rw [← HT.out]; exact Hmem.out); unfold Wi.textOk at this; omega
                unfold Wi.inErr; rw [if_pos HallN.out, if_neg (by simp only; omega), if_neg hb3]
              have ho := Hfail.out 3 he (by decide)
              subst he
              subst ho
              go_wp2_with fail
              refine bodyPost_ret (v := .tuple #[.slice none 0 0, .int .i64 3]) (by simp [results, Try.results10, go_sem]) rfl ?_
              exact ⟨_, rfl, Own.nil _ _ _ _, hbw⟩
            have h4' : ¬ (4000 < (b.length : Int)) := by omega
            go_wp2_with fail
            refine (ref_Num (BitVec.ofInt 64 b.length) wr.heap.size _ (by rfl)).mono ?_
            rintro e w8 ⟨v8, rfl, ho8, hb8⟩
            obtain ⟨a8, c8, rfl, hsl8, ho9, hb9⟩ := gather ho hb8 ho8 Hb.out hszr
            have hN8 := num_asB (BitVec.ofInt 64 b.length)
            have hg8 := Hg.out.below hb8
            have hsr8 := Hsr.out.below (by decide) hb8
            have Hb9 := Lib.hid hb9
            have Hg8 := Lib.hid hg8
            have hs8 : B + 1 ≤ w8.heap.size := Nat.le_trans hszr hb8.size
            clear ho ho8 hb8 hb9 hg8 p1
            go_wp2_with (first
              | (refine wpList_app EU8 rfl rfl (by rfl) (by rfl) ti_bytes ho9 rfl hsl8 (by unfold maxLen; omega) (by omega) hs8 ?_
                 intro v10 w10 ho10 hga hva hb10))
            have hgA := Hg8.out.app hga hva
            have hbA := Hb9.out.trans hb10
            have hsz10 : B + 1 ≤ w10.heap.size := Nat.le_trans hs8 hb10.size
            have HgA := Lib.hid hgA
            have HbA := Lib.hid hbA
            have hsrA : Sl EU8 (fun _ => True) w10 a' b := Hs5.out.mono (by decide) fun q hq hlt => ⟨HgA.out.only.block q hlt (HokS.out q hq), trivial⟩
            have hl10 : (Bts.asB (N2 ++ Wi.textsBits (T.take j)) ++ Bts.asB (Bts.num (BitVec.ofInt 64 b.length))).length ≤ 2200 + 2001 * 32129 := by rw [List.length_append]; omega
            clear hgA hbA hga hva hb10 ho9 hsl8 hs8 hsr8 hlen
            go_wp2_with fail
            refine (ref_Bits a' b.length c' b w10.heap.size _ (by rfl) ⟨rfl, hsrA⟩ (by omega)).mono ?_
            rintro e w11 ⟨v11, rfl, ho11, hb11⟩
            obtain ⟨a11, c11, rfl, hsl11, ho12, hb12⟩ := gather ho10 hb11 ho11 HbA.out hsz10
            have hlb : (Bts.asB (Bts.bitsOf b)).length ≤ 32000 := by rw [Bts.asB_len, Bts.bitsOf_len]; omega
            have hg12 := HgA.out.below hb11
            have Hb12 := Lib.hid hb12
            have Hg12 := Lib.hid hg12
            have hs11 : B + 1 ≤ w11.heap.size := Nat.le_trans hsz10 hb11.size
            clear ho10 ho11 hb11 hb12 hg12 hsrA
            go_wp2_with (first
              | (refine wpList_app EU8 rfl rfl (by rfl) (by rfl) ti_bytes ho12 rfl hsl11 (by unfold maxLen; omega) (by omega) hs11 ?_
                 intro v13 w13 ho13 hgb hvb hb13))
            have hgB := Hg12.out.app hgb hvb
            have hbB := Hb12.out.trans hb13
            have hall' : ∀ z ∈ T.take (j + 1), Wi.textOk z := by
              rw [Htk.out]
              intro z hz
              rcases List.mem_append.1 hz with hz | hz
              · exact Hall.out z hz
              · rw [List.mem_singleton.1 hz]; show b.length ≤ 4000; omega
            have hown13 : Own EU8 5 (B + 1) w13 v13 (Bts.asB (N2 ++ Wi.textsBits (T.take (j + 1)))) := by
              rw [Hsn.out, Wi.textBits]
              simpa only [Bts.asB_app, List.append_assoc] using ho13
            have Hall' := Lib.hid hall'
            have Hown13 := Lib.hid hown13
            have HgB := Lib.hid hgB
            have HbB := Lib.hid hbB
            clear hall' hown13 hgB hbB ho13 hgb hvb hb13 hsl11 ho12
            go_roundw
            case rel => exact ⟨j + 1, by omega, by go_num, Hall'.out, Hown13.out, HgB.out, HbB.out⟩
            case measure => simp [intOf]; omega
          · have hji : ¬ ((j : Int) < (n : Int)) := by omega
            rw [List.take_of_length_le (by rw [HTl.out]; omega)] at hall ho
            have hok : Wi.insOk (xs, L, D) := ⟨Hx.out, HallN.out, by simp only; omega, by rw [← HT.out]; exact hall⟩
            have hbits : N2 ++ Wi.textsBits T = Wi.inBits (xs, L, D) := by
              rw [HN2.out, HN.out, HT.out]; simp only [Wi.inBits, List.append_assoc]
            rw [hbits] at ho
            obtain ⟨he, hO⟩ := Wi.inErr_of hok
            have he0 : er = 0 := by rw [Her.out, he]
            have hO0 : out = Bts.pack (Wi.inBits (xs, L, D)) := by rw [Hout.out, hO]
            obtain ⟨X, hX⟩ : ∃ X, X = Wi.inBits (xs, L, D) := ⟨_, rfl⟩
            have hXl : (Bts.asB X).length ≤ 2000 + 2001 * 32129 + 35000 := by
              rw [hX, ← hbits, Bts.asB_len, List.length_append]
              have h1 := Wi.textsBits_len T 4000 hall
              rw [HTl.out] at h1
              have h4 : n * (129 + 8 * 4000) ≤ 2001 * 32129 := Nat.mul_le_mul_right _ hn1
              rw [Bts.asB_len] at hlN2
              omega
            rw [← hX] at ho hO0
            subst he0
            have HO0 := Lib.hid hO0
            obtain ⟨aX, cX, rfl, hcX, hmX, hrX, _⟩ := ho.shape (Bts.asB X).length rfl
            clear hX hO0 hbits hall hok hO he ho hg
            go_wp2_with fail
            refine (ref_Bytes aX (Bts.asB X).length cX X wr.heap.size _ (by rfl) hrX (by omega)).mono ?_
            rintro e w15 ⟨v15, rfl, ho15, hb15'⟩
            go_wp2_with fail
            refine bodyPost_ret (v := .tuple #[v15, .int .i64 0]) (by simp [results, Try.results10, go_sem]) rfl ?_
            exact ⟨_, rfl, by rw [HO0.out]; exact ho15.base (by omega), hbw.trans (hb15'.mono (by omega))⟩
end Go.Proofs.Ytdpopdgeipgheaa

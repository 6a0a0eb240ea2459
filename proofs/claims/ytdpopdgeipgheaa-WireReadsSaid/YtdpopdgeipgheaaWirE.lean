
/-
  What the decoder of messages computes.
-/
import Derived.Test.YtdpopdgeipgheaaWirW
import Derived.Test.YtdpopdgeipgheaaWirD
import Derived.Test.YtdpopdgeipgheaaRow
import Derived.Test.YtdpopdgeipgheaaFrameDec
import Derived.Test.YtdpopdgeipgheaaMemIn
namespace Go.Proofs.Ytdpopdgeipgheaa
open Go.RowKit
set_option linter.unusedVariables false

namespace Wi
/-- what a decoding tells: the kind, what stands inside, the error -/
def dec (b : Bts.Bytes) : Int × Ins × Int :=
  if (Frm.dec b).err ≠ 0 then (0, zeroI, (Frm.dec b).err)
  else if (Frm.dec b).n ≠ b.length then (0, zeroI, 12)
  else if (Frm.dec b).kind < 1 ∨ 7 < (Frm.dec b).kind then (0, zeroI, 14)
  else if (read (Bts.bitsOf (Frm.dec b).data)).2 = 0 then ((Frm.dec b).kind, (read (Bts.bitsOf (Frm.dec b).data)).1, 0)
  else (0, zeroI, (read (Bts.bitsOf (Frm.dec b).data)).2)
theorem nth_over {l : List Int} {i : Nat} (h : l.length ≤ i) : nth l i = 0 := by simp [nth, List.getD, List.getElem?_eq_none h]
theorem nth_snoc (l : List Int) (y : Int) (i : Nat) : nth (l ++ [y]) i = if i = l.length then y else nth l i := by
  simp only [nth, List.getD]
  split
  · rename_i h; subst h; simp
  · rename_i h
    by_cases hl : i < l.length
    · rw [List.getElem?_append_left hl]
    · rw [List.getElem?_eq_none (by simp; omega), List.getElem?_eq_none (by omega)]
theorem go_field {s s1 : Bts.St} {v : BitVec 64} (h : Bts.Go Bts.numP s v s1) : Bts.Go fieldP s v.toInt (if decide (v.toNat ≤ 1099511627776) = true then s1 else Bts.failS s1 1) := by
  have h1 := Bts.go_map (fun v : BitVec 64 => (v.toNat : Int)) (Bts.go_filt (fun v => decide (v.toNat ≤ 1099511627776)) 1 h)
  by_cases hv : v.toNat ≤ 1099511627776
  · have e : v.toInt = (v.toNat : Int) := by rw [BitVec.toInt_eq_toNat_cond, if_pos (by omega)]
    rw [e]; exact h1
  · rw [if_neg (by simpa using hv)] at h1 ⊢
    cases s1 with
    | inl l => exact Bts.go_any h1
    | inr e => exact Bts.go_any h1
theorem go_ins {s0 s1 s2 s3 s4 : Bts.St} {ys : List Int} {n : BitVec 64} {ts : List Bts.Bytes} {t : Bts.Bytes} (h1 : Bts.Go (Bts.manyP fieldP 9) s0 ys s1) (h2 : Bts.Go (Bts.filtP (fun n => decide (n.toNat ≤ 2000)) 4 Bts.numP) s1 n s2) (h3 : Bts.Go (Bts.manyP textP n.toNat) s2 ts s3) (h4 : Bts.Go textP s3 t s4) : Bts.Go insP s0 (ys, ts, t) s4 := by
  have a1 : Bts.Go (Bts.bindP (Bts.manyP textP n.toNat) (fun _ => textP)) s2 (ts, t) s4 := Bts.go_bind (q := fun _ => textP) h3 h4
  have a2 : Bts.Go (Bts.bindP (Bts.filtP (fun n => decide (n.toNat ≤ 2000)) 4 Bts.numP) (fun n => Bts.bindP (Bts.manyP textP n.toNat) (fun _ => textP))) s1 (n, ts, t) s4 := Bts.go_bind (q := fun n => Bts.bindP (Bts.manyP textP n.toNat) (fun _ => textP)) h2 a1
  exact Bts.go_map _ (Bts.go_bind (q := fun _ => Bts.bindP (Bts.filtP (fun n => decide (n.toNat ≤ 2000)) 4 Bts.numP) (fun n => Bts.bindP (Bts.manyP textP n.toNat) (fun _ => textP))) h1 a2)
end Wi

theorem Frm.dec_data (l : List (BitVec 8)) : (Frm.dec l).data.length ≤ 65536 := by
  unfold Frm.dec
  split
  · simp [Frm.bad]
  split
  · simp [Frm.bad]
  split
  · simp [Frm.bad]
  split
  · simp [Frm.bad]
  split
  · simp [Frm.bad]
  · rename_i h1 h2 h3 h4 h5
    show (Frm.body l).length ≤ 65536
    unfold Frm.body
    rw [List.length_take]; omega
abbrev msgRow (k : Int) (ys : List Int) : Array Value := msgCells k ys none 0 0 none 0 0
theorem msgRow_set (k : Int) (ys : List Int) (y : Int) (h : ys.length < 9) : (msgRow k ys).setIfInBounds (ys.length + 1) (.int .i64 y) = msgRow k (ys ++ [y]) := by
  obtain ⟨n, hn⟩ : ∃ n, n = ys.length := ⟨_, rfl⟩
  rw [← hn] at h ⊢
  have e : n = 0 ∨ n = 1 ∨ n = 2 ∨ n = 3 ∨ n = 4 ∨ n = 5 ∨ n = 6 ∨ n = 7 ∨ n = 8 := by omega
  unfold msgRow msgCells
  simp only [Wi.nth_snoc, ← hn]
  rcases e with rfl | rfl | rfl | rfl | rfl | rfl | rfl | rfl | rfl <;> rfl

/-- what a decoder of messages tells -/
def MsgPost (B : Nat) (r : Int × Wi.Ins × Int) (w : World) (e : Ending) (w' : World) : Prop :=
  ∃ aL cL aD cD, e = .returned (.tuple #[.agg (msgCells r.1 r.2.1.1 aL r.2.1.2.1.length cL aD r.2.1.2.2.length cD), .int .i64 r.2.2]) ∧ r.2.1.2.1.length ≤ cL ∧ cL ≤ maxLen ∧ Sl EBytes (fun b => B ≤ b) w' aL r.2.1.2.1 ∧
    r.2.1.2.2.length ≤ cD ∧ cD ≤ maxLen ∧ Sl EU8 (fun b => B ≤ b) w' aD r.2.1.2.2 ∧ Below B w w'
theorem msg_size (k : Int) (xs : List Int) (aL : Option Addr) (nL cL : Nat) (aD : Option Addr) (nD cD : Nat) : (Try.prog.info? 25).map (·.size) = some (msgCells k xs aL nL cL aD nD cD).size := by
  rw [show (msgCells k xs aL nL cL aD nD cD).size = 12 by rfl]; kernel_rfl
theorem msg_one (k : Int) (xs : List Int) (aL : Option Addr) (nL cL : Nat) (aD : Option Addr) (nD cD : Nat) : (msgCells k xs aL nL cL aD nD cD).all (·.oneCell') = true := by
  simp [msgCells, Value.oneCell']

/-- what is owned, as it is read: all of it lies from a block on -/
theorem Own.sl_in {α : Type} {E : Enc α} {B B' : Nat} {te : TypeId} {base : Nat} {w : World} {a : Option Addr} {n c : Nat} {l : List α} (h : Own (EIn B E) te base w (.slice a n c) l) (h1 : B' ≤ B) (h2 : B' ≤ base) : Sl E (fun b => B' ≤ b) w a l := by
  rcases h with ⟨h0, rfl⟩ | ⟨g, cap, cur, hv, hg, hh, k1, k2, k3, k4⟩
  · exact Sl.nil _ _ _ _
  · injection hv with e1 e2 e3
    subst e1
    intro k x hx
    obtain ⟨cs, hr, hc⟩ := k4 k x hx
    refine ⟨g, 0, rfl, by omega, cs, E.mono (w' := w) hr fun q hq _ => ⟨rfl, by have := hq.2; omega⟩, fun j v hj => ?_⟩
    have := hc j v hj
    simp [World.cell?, hh]
    exact this

theorem text_item {g G : Nat} {w w1 : World} {aL a1 : Option Addr} {k cL c1 : Nat} {ts : List (List (BitVec 8))} {t : List (BitVec 8)} {S : Nat → Prop} (h : Own (EIn G EBytes) 23 G w (.slice aL k cL) ts) (ho : Only S w w1) (hS : ∀ q, S q → q = g) (hg : g < G) (hG : G ≤ w.heap.size)
    (h1 : Own EU8 5 w.heap.size w1 (.slice a1 t.length c1) t) (hc : t.length ≤ c1) (hm : c1 ≤ maxLen) :
    Own (EIn G EBytes) 23 G (w1.alloc (.cells #[.slice a1 t.length c1] 23)) (.slice aL k cL) ts ∧
    Sl (EIn G EBytes) (fun b => some b ≠ (Value.slice aL k cL).ownBlock) (w1.alloc (.cells #[.slice a1 t.length c1] 23)) (some ⟨w1.heap.size, 0, none⟩) [t] := by
  have h2 := h.in_only ho (fun j hj => by have := hS j hj; omega) (fun j hj => by have := hS j hj; omega)
  have hb : Below w1.heap.size w1 (w1.alloc (.cells #[.slice a1 t.length c1] 23)) := (Below.refl _ _).alloc (Nat.le_refl _) _
  have hlt := fun q (e : (Value.slice aL k cL).ownBlock = some q) => (h.lt q e).2
  refine ⟨h2.below hb, sl_one (heap_alloc_new w1 _) ⟨a1, c1, rfl, hc, hm, ?_⟩ (fun e => by have := hlt _ e.symm; have := ho.size; omega)⟩
  exact h1.slB.mono (by decide) fun q hq hl => ⟨hb.block q hl, fun e => by have := hlt _ e.symm; omega, by omega⟩

set_option maxRecDepth 100000 in
set_option maxHeartbeats 3200000 in
theorem wire_Decode (B : Nat) (a : Option Addr) (n c : Nat) (l : List (BitVec 8)) (w : World) (hB : w.heap.size = B) (hr : RB w a n l) (hnc : n ≤ c) (hcm : c ≤ maxLen) :
    Calls Try.prog 14 #[.slice a n c] w (MsgPost B (Wi.dec l) w) := by
  obtain ⟨rfl, hs⟩ := hr
  obtain ⟨R, hR⟩ : ∃ R, R = Wi.dec l := ⟨_, rfl⟩
  rw [← hR]
  obtain ⟨w1, hw1⟩ : ∃ x, x = w.alloc (.cells (msgRow 0 []) 25) := ⟨_, rfl⟩
  have hh1 : w1.heap[B]? = some (.cells (msgRow 0 []) 25 (0, 0)) := by subst hw1; subst hB; exact heap_alloc_new w _
  have hb1 : Below B w w1 := by subst hw1; subst hB; exact (Below.refl _ _).alloc (Nat.le_refl _) _
  have hn1 : w1.heap.size = B + 1 := by subst hw1; subst hB; simp
  have hs1 : SB w1 a l := hs.below (by decide) (by rw [hB]; exact hb1)
  have HR := Lib.hid hR
  have HB := Lib.hid hB
  have hbad : ∀ (wx : World) (T : Array Value) (e : Int), wx.heap[B]? = some (.cells (msgRow 0 []) 25 (0, 0)) → Below B w wx → R = (0, Wi.zeroI, e) → T.getD 2 undef = .pointer (some ⟨B, 0, none⟩) → T.getD 3 undef = .int .i64 e →
      bodyPost Try.prog Try.f14 (MsgPost B R w) Exit.ret { tmps := T, defers := [] } wx := by
    intro wx T e hx hb hr h2 h3
    refine bodyPost_ret (v := .tuple #[.agg (msgRow 0 []), .int .i64 e]) ?_ rfl ?_
    · rw [results_cell2 (P := Try.prog) Try.results14 T _ B 25 (msgRow 0 []) (0, 0) _ h2 hx Try.underlying25 rfl (msg_size _ _ _ _ _ _ _ _), h3]
    · rw [hr]
      exact ⟨none, 0, none, 0, rfl, Nat.le_refl _, Nat.zero_le _, Sl.nil _ _ _ _, Nat.le_refl _, Nat.zero_le _, Sl.nil _ _ _ _, hb⟩
  have Hbad := Lib.hid hbad
  clear hs hbad hR
  have hw1' : w.alloc (.cells #[.int .i64 0, .int .i64 0, .int .i64 0, .int .i64 0, .int .i64 0, .int .i64 0, .int .i64 0, .int .i64 0, .int .i64 0, .int .i64 0, .slice none 0 0, .slice none 0 0] 25) = w1 := hw1.symm
  clear hw1
  go_enter Try.func14, Try.ntmps14
  go_upto_region 1 with fail
  clear hw1' hB
  go_wp2_with fail
  refine (frame_Decode (B + 1) a l.length c l _ hn1 ⟨rfl, hs1⟩ hnc hcm).mono ?_
  rintro e w2 ⟨a2, c2, rfl, hs2, hc2, hm2, hb2⟩
  obtain ⟨G, hG⟩ : ∃ G, G = Frm.dec l := ⟨_, rfl⟩
  rw [← hG] at hs2 hc2 ⊢
  obtain ⟨gk, gd, gn, ge⟩ := G
  dsimp only at hs2 hc2 ⊢
  have hh2 : w2.heap[B]? = some (.cells (msgRow 0 []) 25 (0, 0)) := by rw [hb2.block B (by omega)]; exact hh1
  have hbw2 : Below B w w2 := hb1.trans (hb2.mono (by omega))
  have hsz2 : B + 1 ≤ w2.heap.size := by have := hb2.size; omega
  obtain ⟨w3, hw3⟩ : ∃ x, x = w2.alloc (.cells #[.int .i64 gk, .slice a2 gd.length c2] 39) := ⟨_, rfl⟩
  have hb3 : Below w2.heap.size w2 w3 := by subst hw3; exact (Below.refl _ _).alloc (Nat.le_refl _) _
  have hh3 : w3.heap[w2.heap.size]? = some (.cells #[.int .i64 gk, .slice a2 gd.length c2] 39 (0, 0)) := by subst hw3; exact heap_alloc_new w2 _
  have hn3 : w3.heap.size = w2.heap.size + 1 := by subst hw3; simp
  have hhB3 : w3.heap[B]? = some (.cells (msgRow 0 []) 25 (0, 0)) := by rw [hb3.block B (by omega)]; exact hh2
  have hbw3 : Below B w w3 := hbw2.trans (hb3.mono (by omega))
  have hs3 := hs2.below (by decide) hb3
  have f0 : w3.cell? ⟨w2.heap.size, 0, none⟩ = some (.int .i64 gk) := by simp [World.cell?, hh3]
  have f1 : w3.cell? ⟨w2.heap.size, 1, none⟩ = some (.slice a2 gd.length c2) := by simp [World.cell?, hh3]
  have hex3 := hw3.symm
  have HG := Lib.hid hG
  have HhB3 := Lib.hid hhB3
  have Hn3 := Lib.hid hn3
  obtain ⟨F, hF⟩ : ∃ F, F = w2.heap.size := ⟨_, rfl⟩
  have HF := Lib.hid hF
  clear hw3 hG hh2 hs2 hs1 hh1 hb1 hn1 hb2 hh3 hhB3 hn3 hF
  go_upto_region 2 with fail
  clear hex3
  rw [← HF.out] at f0 f1 ⊢
  by_cases e0 : ¬ ge = 0
  · have e0' : (ge != 0) = true := by simpa using e0
    have hRe : R = (0, Wi.zeroI, ge) := by rw [HR.out]; unfold Wi.dec; rw [if_pos (by rw [← HG.out]; exact e0), ← HG.out]
    have HRe := Lib.hid hRe
    clear hRe e0
    go_wp2_with (first | (refine wpList_storeRow rfl _ _ _ rfl B rfl (msgRow 0 []) (msgRow 0 []) rfl _ HhB3.out (msg_size _ _ _ _ _ _ _ _) rfl (msg_one _ _ _ _ _ _ _ _) ?_))
    exact Hbad.out _ _ ge (setRow_at HhB3.out) (hbw3.trans (setRow_below _ (by have := hb3.size; omega) (Nat.le_refl _))) HRe.out rfl rfl
  obtain rfl : ge = 0 := Decidable.not_not.1 e0
  clear e0
  by_cases e1 : ¬ gn = l.length
  · have e1' : ((gn : Int) != (l.length : Int)) = true := by simp; omega
    have hRe : R = (0, Wi.zeroI, 12) := by rw [HR.out]; unfold Wi.dec; rw [if_neg (by rw [← HG.out]; simp), if_pos (by rw [← HG.out]; exact e1)]
    have HRe := Lib.hid hRe
    clear hRe e1
    go_wp2_with (first | (refine wpList_storeRow rfl _ _ _ rfl B rfl (msgRow 0 []) (msgRow 0 []) rfl _ HhB3.out (msg_size _ _ _ _ _ _ _ _) rfl (msg_one _ _ _ _ _ _ _ _) ?_))
    exact Hbad.out _ _ 12 (setRow_at HhB3.out) (hbw3.trans (setRow_below _ (by have := hb3.size; omega) (Nat.le_refl _))) HRe.out rfl rfl
  obtain rfl : gn = l.length := Decidable.not_not.1 e1
  clear e1
  have hnn : ((l.length : Int) != (l.length : Int)) = false := by simp
  by_cases e2 : gk < 1 ∨ 7 < gk
  · have hRe : R = (0, Wi.zeroI, 14) := by rw [HR.out]; unfold Wi.dec; rw [if_neg (by rw [← HG.out]; simp), if_neg (by rw [← HG.out]; simp), if_pos (by rw [← HG.out]; exact e2)]
    have HRe := Lib.hid hRe
    clear hRe
    by_cases e3 : gk < 1
    · clear e2
      go_wp2_with (first | (refine wpList_storeRow rfl _ _ _ rfl B rfl (msgRow 0 []) (msgRow 0 []) rfl _ HhB3.out (msg_size _ _ _ _ _ _ _ _) rfl (msg_one _ _ _ _ _ _ _ _) ?_))
      exact Hbad.out _ _ 14 (setRow_at HhB3.out) (hbw3.trans (setRow_below _ (by have := hb3.size; omega) (Nat.le_refl _))) HRe.out rfl rfl
    · have e4 : 7 < gk := by omega
      clear e2
      go_wp2_with (first | (refine wpList_storeRow rfl _ _ _ rfl B rfl (msgRow 0 []) (msgRow 0 []) rfl _ HhB3.out (msg_size _ _ _ _ _ _ _ _) rfl (msg_one _ _ _ _ _ _ _ _) ?_))
      exact Hbad.out _ _ 14 (setRow_at HhB3.out) (hbw3.trans (setRow_below _ (by have := hb3.size; omega) (Nat.le_refl _))) HRe.out rfl rfl
  have e3 : ¬ gk < 1 := by omega
  have e4 : ¬ 7 < gk := by omega
  have hdl : gd.length ≤ 65536 := by
    have := Frm.dec_data l
    rw [← HG.out] at this
    exact this
  have hRm : ∀ r, Wi.read (Bts.bitsOf gd) = r → R = if r.2 = 0 then (gk, r.1, 0) else (0, Wi.zeroI, r.2) := by
    intro r hr
    rw [HR.out]; unfold Wi.dec
    rw [← HG.out]
    simp only [ne_eq, not_true_eq_false, if_false]
    rw [if_neg e2, hr]
  have HRm := Lib.hid hRm
  obtain ⟨w4, hw4⟩ : ∃ x, x = w3.alloc (.cells (msgRow gk []) 25) := ⟨_, rfl⟩
  have hb4 : Below w3.heap.size w3 w4 := by subst hw4; exact (Below.refl _ _).alloc (Nat.le_refl _) _
  have hh4 : w4.heap[F + 1]? = some (.cells (msgRow gk []) 25 (0, 0)) := by subst hw4; rw [HF.out, ← Hn3.out]; exact heap_alloc_new w3 _
  have hn4 : w4.heap.size = F + 2 := by subst hw4; simp [HF.out, Hn3.out]
  have hhB4 : w4.heap[B]? = some (.cells (msgRow 0 []) 25 (0, 0)) := by rw [hb4.block B (by rw [Hn3.out]; omega)]; exact HhB3.out
  have hbw4 : Below B w w4 := hbw3.trans (hb4.mono (by rw [Hn3.out]; omega))
  have hs4 := hs3.below (by decide) hb4
  have g1 := cell_thru f1 hb4
  have hex4 : w3.alloc (.cells #[.int .i64 gk, .int .i64 0, .int .i64 0, .int .i64 0, .int .i64 0, .int .i64 0, .int .i64 0, .int .i64 0, .int .i64 0, .int .i64 0, .slice none 0 0, .slice none 0 0] 25) = w4 := hw4.symm
  have hBF : B + 1 ≤ F := by rw [HF.out]; exact hsz2
  have Hex4 := Lib.hid hex4
  clear hex4 hRm hw4 hs3 hbw2 hbw3 hb3 hsz2
  go_upto_region 9 with fail
  rw [Hex4.out]
  clear f0 f1
  rw [show w3.heap.size = F + 1 by rw [Hn3.out, HF.out]]
  go_wp2_with fail
  refine (bits_ReadS (F + 2) a2 gd.length c2 gd _ hn4 ⟨rfl, hs4.any (by decide)⟩ (by omega)).mono ?_
  rintro e w5 ⟨g, rfl, hg, hr5, hb5⟩
  have hM5 : w5.heap[F + 1]? = some (.cells (msgRow gk []) 25 (0, 0)) := by rw [hb5.block (F + 1) (by omega)]; exact hh4
  have hB5 : w5.heap[B]? = some (.cells (msgRow 0 []) 25 (0, 0)) := by rw [hb5.block B (by omega)]; exact hhB4
  have hbw5 : Below B w w5 := hbw4.trans (hb5.mono (by omega))
  have hg5 := hr5.lt
  clear hb4 hh4 hn4 hhB4 hbw4 hs4 g1 hb5 hc2 hnn e2 e3 e4
  go_wp2_with fail
  refine (wire_fields (F + 1) _).mono ?_
  rintro e w6 ⟨rfl, hp6, hb6⟩
  obtain ⟨h, hh⟩ : ∃ h, h = w5.heap.size := ⟨_, rfl⟩
  rw [← hh] at hp6 hb6 hg5 ⊢
  have hr6 := hr5.keep (by rw [← hh]; exact hb6)
  have hM6 : w6.heap[F + 1]? = some (.cells (msgRow gk []) 25 (0, 0)) := by rw [hb6.block (F + 1) (by omega)]; exact hM5
  have hB6 : w6.heap[B]? = some (.cells (msgRow 0 []) 25 (0, 0)) := by rw [hb6.block B (by omega)]; exact hB5
  have hbw6 : Below B w w6 := hbw5.trans (hb6.mono (by omega))
  have hh6 : h < w6.heap.size := (Array.getElem?_eq_some_iff.1 hp6).1
  have HP6 := Lib.hid hp6
  have HB6 := Lib.hid hB6
  obtain ⟨s0, hs0'⟩ : ∃ s0 : Bts.St, s0 = .inl (Bts.bitsOf gd) := ⟨_, rfl⟩
  rw [← hs0'] at hr6
  have Hs0 := Lib.hid hs0'
  have Hl0 := Lib.hid (Bts.loop_start Wi.fieldP 9 s0)
  clear hr5 hM5 hB5 hbw5 hb6 hp6 hB6 hs0' hh
  go_wp2_with fail
  go_loopw [50] (fun i wr => ∃ (j : Nat) (ys : List Int) (st : Bts.St), j ≤ 9 ∧ i = .int .i64 j ∧ ys.length = j ∧ RdS (fun k => F + 2 ≤ k ∧ k < g) wr g gd st ∧ wr.heap[F + 1]? = some (.cells (msgRow gk ys) 25 (0, 0)) ∧ Only (fun q => q = g ∨ q = F + 1) w6 wr ∧ Bts.LoopP Wi.fieldP 9 s0 j ys st) (fun i _ => 9 - (intOf i).toNat)
  case atStart => exact ⟨0, [], s0, Nat.zero_le _, rfl, rfl, hr6, hM6, Only.refl _ _, Hl0.out⟩
  case round =>
    clear hr6 hM6
    obtain ⟨j, ys, st, hj, rfl, hyl, hr, hM, ho, hmid⟩ := hrel
    have Hmid := Lib.hid hmid
    have Ho := Lib.hid ho
    have hszr : w6.heap.size ≤ wr.heap.size := ho.size
    by_cases hlt : j < 9
    · have hji : (j : Int) < 9 := by omega
      have pj : wr.cell? ⟨h, j, none⟩ = some (.pointer (some ⟨F + 1, j + 1, none⟩)) := by
        have e := ho.block h hh6 (by omega)
        simp [World.cell?, e, HP6.out, wiPtrs_get _ _ hlt]
      clear hmid ho
      go_wp2_with fail
      refine (bits_RNumS g gd st _ hr (by omega)).mono ?_
      rintro e w7 ⟨rfl, hr7, ho7⟩
      have hgo := Wi.go_field (Bts.go_run Bts.numP 0#64 st)
      obtain ⟨v, hv⟩ : ∃ z, z = (Bts.runS Bts.numP 0#64 st).1 := ⟨_, rfl⟩
      obtain ⟨st1, hst1⟩ : ∃ z, z = (Bts.runS Bts.numP 0#64 st).2 := ⟨_, rfl⟩
      rw [← hst1, ← hv] at hgo
      rw [← hst1] at hr7
      rw [← hv]
      obtain ⟨st2, hst2⟩ : ∃ z, z = if decide (v.toNat ≤ 1099511627776) = true then st1 else Bts.failS st1 1 := ⟨_, rfl⟩
      rw [← hst2] at hgo
      have Hst2 := Lib.hid hst2
      have Hgo := Lib.hid hgo
      clear hv hst1 hst2 hgo
      have hM7 : w7.heap[F + 1]? = some (.cells (msgRow gk ys) 25 (0, 0)) := by rw [ho7.block (F + 1) (by omega) (by omega)]; exact hM
      have HM7 := Lib.hid hM7
      have Ho7 := Lib.hid ho7
      have hs7 : w6.heap.size ≤ w7.heap.size := Nat.le_trans hszr ho7.size
      clear hr hM pj hM7 ho7
      obtain ⟨dq, hdq⟩ : ∃ z, decide (1099511627776 < bv v) = z := ⟨_, rfl⟩
      go_upto_if 57 with fail
      have Hdq := Lib.hid hdq
      clear hdq
      go_cut [] (fun wx => RdS (fun k => F + 2 ≤ k ∧ k < g) wx g gd st2 ∧ Only (· = g) w7 wx)
      case first =>
        cases dq
        · have hz : st2 = st1 := by
            have := of_decide_eq_false Hdq.out
            rw [Hst2.out, if_pos (by unfold bv at this; rw [decide_eq_true_eq]; omega)]
          have Hz := Lib.hid hz
          clear hz
          go_wp2_with fail
          go_meet
          exact ⟨by rw [Hz.out]; exact hr7, Only.refl _ _⟩
        · have hz : st2 = Bts.failS st1 1 := by
            have := of_decide_eq_true Hdq.out
            rw [Hst2.out, if_neg (by unfold bv at this; rw [decide_eq_true_eq]; omega)]
          have Hz := Lib.hid hz
          clear hz
          go_wp2_with fail
          refine (bits_FailS g gd st1 1 _ hr7 (by decide) (by decide)).mono ?_
          rintro e w8 ⟨rfl, hr8, ho8⟩
          go_wp2_with fail
          go_meet
          exact ⟨by rw [Hz.out]; exact hr8, ho8⟩
      obtain ⟨hr8, ho8⟩ := hcut
      obtain ⟨w8, hw8⟩ : ∃ z, z = wc := ⟨_, rfl⟩
      subst hw8
      have hM8 : w8.heap[F + 1]? = some (.cells (msgRow gk ys) 25 (0, 0)) := by rw [ho8.block (F + 1) (by omega) (by omega)]; exact HM7.out
      have m8 : w8.cell? ⟨F + 1, j + 1, none⟩ = some (.int .i64 (Wi.nth ys j)) := by simp [World.cell?, hM8, msgCells_num _ _ _ _ _ _ _ _ _ hlt]
      have mf : w8.frozen? ⟨F + 1, j + 1, none⟩ = false := by simp [World.frozen?, hM8]
      have HM8 := Lib.hid hM8
      have Ho8 := Lib.hid ho8
      clear hr7 hM8 ho8
      go_wp2_with fail
      have hM9 := heap_set HM8.out (j + 1) (.int .i64 v.toInt)
      rw [← hyl, msgRow_set gk ys v.toInt (by omega), hyl] at hM9
      have HM9 := Lib.hid hM9
      have h89 : Only (· = F + 1) w8 (w8.setCell ⟨F + 1, j + 1, none⟩ (.int .i64 v.toInt)) := Only.setCell (S := (· = F + 1)) (Only.refl _ _) (p := ⟨F + 1, j + 1, none⟩) (.inl rfl) _
      have H89 := Lib.hid h89
      clear hM9 h89
      go_roundw
      case rel =>
        refine ⟨j + 1, ys ++ [v.toInt], st2, by omega, by go_num, by simp [hyl], hr8.only H89.out (by omega) (fun k hk => by omega), HM9.out, ?_, ?_⟩
        · have h1 := ((Ho.out.trans (Ho7.out.mono (T := fun q => q = g ∨ q = F + 1) fun _ h => .inl h) fun _ _ h => h).trans (Ho8.out.mono (T := fun q => q = g ∨ q = F + 1) fun _ h => .inl h) fun _ _ h => h)
          exact h1.trans (H89.out.mono (T := fun q => q = g ∨ q = F + 1) fun _ h => .inr h) fun _ _ h => h
        · cases st with
          | inl u => exact Bts.loop_step Hmid.out hlt Hgo.out
          | inr e' => rw [Bts.go_inr_st Hgo.out]; exact Bts.loop_on Hmid.out
      case measure => simp [intOf]; omega
    · have hji : ¬ ((j : Int) < 9) := by omega
      have hj9 : j = 9 := by omega
      have hgoF := Bts.loop_end hmid (.inl hj9)
      have HgoF := Lib.hid hgoF
      have hyl9 : ys.length = 9 := by omega
      have hw6r := ho
      clear hmid ho hgoF
      clear hlt hj9 Hmid Ho Hl0 hj
      go_wp2_with fail
      refine (bits_RNumS g gd st _ hr (by omega)).mono ?_
      rintro e w7 ⟨rfl, hr7, ho7⟩
      have hgo := Bts.go_filt (fun n => decide (n.toNat ≤ 2000)) 4 (Bts.go_run Bts.numP 0#64 st)
      obtain ⟨n, hn⟩ : ∃ z, z = (Bts.runS Bts.numP 0#64 st).1 := ⟨_, rfl⟩
      obtain ⟨st1, hst1⟩ : ∃ z, z = (Bts.runS Bts.numP 0#64 st).2 := ⟨_, rfl⟩
      rw [← hst1, ← hn] at hgo
      rw [← hst1] at hr7
      rw [← hn]
      obtain ⟨st2, hst2⟩ : ∃ z, z = if decide (n.toNat ≤ 2000) = true then st1 else Bts.failS st1 4 := ⟨_, rfl⟩
      rw [← hst2] at hgo
      have Hst2 := Lib.hid hst2
      have HgoN := Lib.hid hgo
      have hM7 : w7.heap[F + 1]? = some (.cells (msgRow gk ys) 25 (0, 0)) := by rw [ho7.block (F + 1) (by omega) (by omega)]; exact hM
      have hO7 : Only (fun q => q = g ∨ q = F + 1) w6 w7 := hw6r.trans (ho7.mono (T := fun q => q = g ∨ q = F + 1) fun _ h => .inl h) fun _ _ h => h
      clear hn hst1 hst2 hgo hr hM ho7 hw6r
      obtain ⟨dq, hdq⟩ : ∃ z, decide (2000 < bv n) = z := ⟨_, rfl⟩
      go_upto_if 68 with fail
      have Hdq := Lib.hid hdq
      clear hdq
      go_cut [] (fun wx => RdS (fun k => F + 2 ≤ k ∧ k < g) wx g gd st2 ∧ Only (· = g) w7 wx)
      case first =>
        cases dq
        · have hz : st2 = st1 := by
            have := of_decide_eq_false Hdq.out
            rw [Hst2.out, if_pos (by unfold bv at this; rw [decide_eq_true_eq]; omega)]
          have Hz := Lib.hid hz
          clear hz
          go_wp2_with fail
          go_meet
          exact ⟨by rw [Hz.out]; exact hr7, Only.refl _ _⟩
        · have hz : st2 = Bts.failS st1 4 := by
            have := of_decide_eq_true Hdq.out
            rw [Hst2.out, if_neg (by unfold bv at this; rw [decide_eq_true_eq]; omega)]
          have Hz := Lib.hid hz
          clear hz
          go_wp2_with fail
          refine (bits_FailS g gd st1 4 _ hr7 (by decide) (by decide)).mono ?_
          rintro e w8 ⟨rfl, hr8, ho8⟩
          go_wp2_with fail
          go_meet
          exact ⟨by rw [Hz.out]; exact hr8, ho8⟩
      obtain ⟨hr8, ho8⟩ := hcut
      obtain ⟨w8, hw8⟩ : ∃ z, z = wc := ⟨_, rfl⟩
      subst hw8
      have hs7 : w6.heap.size ≤ w7.heap.size := hO7.size
      have hM8 : w8.heap[F + 1]? = some (.cells (msgCells gk ys none 0 0 none 0 0) 25 (0, 0)) := by rw [ho8.block (F + 1) (by omega) (by omega)]; exact hM7
      have hO8 : Only (fun q => q = g ∨ q = F + 1) w6 w8 := hO7.trans (ho8.mono (T := fun q => q = g ∨ q = F + 1) fun _ h => .inl h) fun _ _ h => h
      have hbig : ∀ u : Bts.Bits, st2 = .inl u → n.toNat ≤ 2000 := by
        intro u hu
        rw [Hst2.out] at hu
        split at hu
        · rename_i h; simpa using h
        · cases st1 <;> cases hu
      have Hbig := Lib.hid hbig
      obtain ⟨N, hN⟩ : ∃ N, N = n.toNat := ⟨_, rfl⟩
      have hN64 : N < 18446744073709551616 := by rw [hN]; exact n.isLt
      have HN := Lib.hid hN
      have Hl2 := Lib.hid (Bts.loop_start Wi.textP N st2)
      clear hr7 ho8 hM7 hO7 hbig hN hs7
      go_wp2_with fail
      go_loopw [13] (fun i wr => ∃ (k : Nat) (aL : Option Addr) (cL : Nat) (ts : List (List (BitVec 8))) (st : Bts.St), k ≤ N ∧ k ≤ 2000 ∧ i = .int .u64 (bv (BitVec.ofNat 64 k)) ∧ RdS (fun k => F + 2 ≤ k ∧ k < g) wr g gd st ∧ Own (EIn w6.heap.size EBytes) 23 w6.heap.size wr (.slice aL k cL) ts ∧ ts.length = k ∧
        wr.heap[F + 1]? = some (.cells (msgCells gk ys aL k cL none 0 0) 25 (0, 0)) ∧ Only (fun q => q = g ∨ q = F + 1) w6 wr ∧ Bts.LoopP Wi.textP N st2 k ts st) (fun i _ => N - (intOf i).toNat)
      case atStart => exact ⟨0, none, 0, [], st2, Nat.zero_le _, Nat.zero_le _, rfl, hr8, Own.nil _ _ _ _, rfl, hM8, hO8, Hl2.out⟩
      case round =>
        clear hr8 hM8 hO8
        obtain ⟨k, aL, cL, ts, st, hk, hk2, rfl, hr, ho, htl, hM, hO, hmid⟩ := hrel
        have hszr : w6.heap.size ≤ wr.heap.size := hO.size
        have hbk : bv (BitVec.ofNat 64 k) = (k : Int) := by unfold bv; rw [BitVec.toNat_ofNat]; omega
        have hbn : bv n = (N : Int) := by unfold bv; rw [HN.out]
        have Hbk := Lib.hid hbk
        have Hbn := Lib.hid hbn
        have Hmid := Lib.hid hmid
        have HO := Lib.hid hO
        have HM := Lib.hid hM
        have Htl := Lib.hid htl
        have hfin : (k = N ∨ ∃ e, st = .inr e) → Bts.Go (Bts.manyP Wi.textP n.toNat) st2 ts st := fun h => by
          have h1 := Bts.loop_end Hmid.out h
          rw [HN.out] at h1
          exact h1
        have Hfin := Lib.hid hfin
        clear hmid hbk hbn hO hM hfin htl
        by_cases hcond : k < N ∧ ∃ u, st = .inl u
        · obtain ⟨hlt, u, rfl⟩ := hcond
          have hlt' : bv (BitVec.ofNat 64 k) < bv n := by rw [Hbk.out, Hbn.out]; omega
          go_wp2_with fail
          refine (bits_ErrS g gd (.inl u) _ hr).mono ?_
          rintro e w9 ⟨rfl, rfl⟩
          rw [show Bts.errS (.inl u) = 0 by rfl]
          have hN2 : N ≤ 2000 := by
            have hm := Hmid.out
            unfold Bts.LoopP at hm
            cases h2 : st2 with
            | inr e' => rw [h2] at hm; cases hm
            | inl l => rw [HN.out]; exact Hbig.out l h2
          have hMr := HM.out
          have c10 : wr.cell? ⟨F + 1, 10, none⟩ = some (.slice aL k cL) := by simp [World.cell?, hMr, msgCells]
          have hrd : RdS (fun k => F + 2 ≤ k ∧ k < g) wr.drew g gd (.inl u) := hr.keep (Below.refl _ _).drew
          have hod : Own (EIn w6.heap.size EBytes) 23 w6.heap.size wr.drew (.slice aL k cL) ts := ho.below (Below.refl _ _).drew
          clear hMr hr ho
          have hgr : g < wr.heap.size := by omega
          go_upto_region 24 with fail
          have c10d : wr.drew.cell? ⟨F + 1, 10, none⟩ = some (.slice aL k cL) := c10
          have hwt := wire_text wr.heap.size g gd (.inl u) wr.drew (by rfl) hrd (by omega) (fun q hq => by omega)
          have Hwt := Lib.hid hwt
          have hnext : bv (BitVec.ofNat 64 k + 1#64) = bv (BitVec.ofNat 64 (k + 1)) := by rw [BitVec.ofNat_add]
          have hbk' : bv (BitVec.ofNat 64 (k + 1)) = ((k + 1 : Nat) : Int) := by unfold bv; rw [BitVec.toNat_ofNat]; omega
          have Hnext := Lib.hid hnext
          have Hbk' := Lib.hid hbk'
          clear hnext hbk'
          have hg6 : g < w6.heap.size := by omega
          have hitem : ∀ (w10 : World) (a10 : Option Addr) (cc : Nat) (t : List (BitVec 8)), Only (· = g) wr.drew w10 → Own EU8 5 wr.heap.size w10 (.slice a10 t.length cc) t → t.length ≤ cc → cc ≤ maxLen →
              (Own (EIn w6.heap.size EBytes) 23 w6.heap.size (w10.alloc (.cells #[.slice a10 t.length cc] 23)) (.slice aL k cL) ts ∧ Sl (EIn w6.heap.size EBytes) (fun b => some b ≠ (Value.slice aL k cL).ownBlock) (w10.alloc (.cells #[.slice a10 t.length cc] 23)) (some ⟨w10.heap.size, 0, none⟩) [t]) ∧
              w10.heap[F + 1]? = some (.cells (msgCells gk ys aL k cL none 0 0) 25 (0, 0)) ∧ wr.heap.size ≤ w10.heap.size := fun w10 a10 cc t hon hoo hc hm =>
            ⟨text_item hod hon (fun q hq => hq) hg6 hszr hoo hc hm, by rw [hon.block (F + 1) (cell_lt c10) (by omega)]; exact HM.out, hon.size⟩
          have Hitem := Lib.hid hitem
          have hb1 : ts.length + [([] : List (BitVec 8))].length ≤ maxLen := by rw [Htl.out]; unfold maxLen; simp; omega
          have hb2 : (ts.length + [([] : List (BitVec 8))].length) * 24 ≤ 140737488355328 := by rw [Htl.out]; simp; omega
          have Hb1 := Lib.hid hb1
          have Hb2 := Lib.hid hb2
          have hgF : F + 1 < w6.heap.size := by omega
          clear hwt hitem hrd hod hb1 hb2
          go_region_law (first
            | (go_simp; go_at_call 33; refine (Hwt.out).mono ?_; rintro e w10 ⟨v10, t, st3, rfl, ho10, hr10, hgo10, hon10, htl10⟩; obtain ⟨a10, c10', rfl, hc10, hm10, hrs10, ho10'⟩ := ho10.shape t.length rfl; obtain ⟨hit, hM10, hsz10⟩ := Hitem.out w10 a10 c10' t hon10 ho10' hc10 hm10; have k10 : w10.cell? ⟨F + 1, 10, none⟩ = some (.slice aL k cL) := by { simp [World.cell?, hM10, msgCells] }; have k10a : (w10.alloc (.cells #[.slice a10 t.length c10'] 23)).cell? ⟨F + 1, 10, none⟩ = some (.slice aL k cL) := cell_thru k10 ((Below.refl _ _).alloc (Nat.le_refl _) _); have HM10 := Lib.hid hM10; have Hit := Lib.hid hit; have Hsz10 := Lib.hid hsz10; clear hM10 hit hsz10 ho10 ho10' hrs10)
            | ((rw [if_pos (by simp [Region.wanted])]); (refine step_app (l := ts) (l2 := [t]) (base := w6.heap.size) (EIn w6.heap.size EBytes) (by rfl) (by rfl) (by rfl) ti_texts Hit.out.1 rfl Hit.out.2 Hb1.out Hb2.out (by have := Hsz10.out; simp; omega) ?_; intro v11 w11 ho11 hg11 hv11 hb11; obtain ⟨a11, c11, rfl, hc11, hm11, hr11, ho11'⟩ := ho11.shape (k + 1) (by simp [Htl.out]); have k11 : w11.cell? ⟨F + 1, 10, none⟩ = some (.slice aL k cL) := (hb11.cell (p := ⟨F + 1, 10, none⟩) hgF).trans k10a; have kf11 : w11.frozen? ⟨F + 1, 10, none⟩ = false := by { rw [hb11.frozen (p := ⟨F + 1, 10, none⟩) hgF, Below.frozen (B := w10.heap.size) ((Below.refl _ _).alloc (Nat.le_refl _) _) (p := ⟨F + 1, 10, none⟩) (cell_lt k10)]; simp [World.frozen?, HM10.out] })))
          all_goals
            have hMf : (w11.setCell ⟨F + 1, 10, none⟩ (.slice a11 (k + 1) c11)).heap[F + 1]? = some (.cells (msgCells gk ys a11 (k + 1) c11 none 0 0) 25 (0, 0)) := by
              have e : w11.heap[F + 1]? = some (.cells (msgCells gk ys aL k cL none 0 0) 25 (0, 0)) := by
                rw [hb11.block (F + 1) hgF, Below.heap_alloc _ _ _ (cell_lt k10)]; exact HM10.out
              have := heap_set e 10 (.slice a11 (k + 1) c11)
              simpa [msgCells] using this
            have HMf := Lib.hid hMf
            have hOb : Only (fun q => w6.heap.size ≤ q ∨ q = F + 1) w10 (w11.setCell ⟨F + 1, 10, none⟩ (.slice a11 (k + 1) c11)) := by
              have h1 : Only (fun q => w6.heap.size ≤ q ∨ q = F + 1) w10 (w10.alloc (.cells #[.slice a10 t.length c10'] 23)) := Below.only ((Below.refl _ _).alloc (Nat.le_refl _) _)
              have h2 : Only (fun q => w6.heap.size ≤ q ∨ q = F + 1) (w10.alloc (.cells #[.slice a10 t.length c10'] 23)) w11 := ⟨hb11.os, hb11.tape, hb11.output, hb11.size, fun q hq hn => hb11.block q (by omega)⟩
              exact (h1.trans h2 fun _ _ h => h).setCell (p := ⟨F + 1, 10, none⟩) (.inl (.inr rfl)) _
            have HOb := Lib.hid hOb
            have hon : Only (· = g) wr w10 := ⟨hon10.os, hon10.tape, hon10.output, hon10.size, hon10.block⟩
            have Hon := Lib.hid hon
            have hoF : Own (EIn w6.heap.size EBytes) 23 w6.heap.size (w11.setCell ⟨F + 1, 10, none⟩ (.slice a11 (k + 1) c11)) (.slice a11 (k + 1) c11) (ts ++ [t]) :=
              ho11'.in_only (S := (· = F + 1)) (Only.setCell (S := (· = F + 1)) (Only.refl _ _) (p := ⟨F + 1, 10, none⟩) (.inl rfl) _) (fun j hj => by omega) (fun j hj => by omega)
            have HoF := Lib.hid hoF
            clear hMf hOb hon hoF ho11 hg11 hv11 hr11
            go_wp2_with fail
            go_roundw
            case rel =>
              refine ⟨k + 1, a11, c11, ts ++ [t], st3, by omega, by omega, by rw [Hnext.out], hr10.only HOb.out (by omega) (fun q hq => by omega), HoF.out, by simp [Htl.out], HMf.out, ?_, Bts.loop_step Hmid.out hlt hgo10⟩
              have h1 := HO.out.trans (Hon.out.mono (T := fun q => q = g ∨ q = F + 1) fun _ h => .inl h) fun _ _ h => h
              exact h1.trans HOb.out fun q hq h => by rcases h with h | h; omega; exact .inr h
            case measure =>
              rw [Hnext.out]
              show N - (bv (BitVec.ofNat 64 (k + 1))).toNat < N - (bv (BitVec.ofNat 64 k)).toNat
              rw [Hbk'.out, Hbk.out]
              omega
        · have hgoT := Hfin.out (by
            rcases Nat.lt_or_ge k N with h | h
            · cases st with
              | inl u => exact absurd ⟨h, u, rfl⟩ hcond
              | inr e => exact .inr ⟨e, rfl⟩
            · exact .inl (by omega))
          have HgoT := Lib.hid hgoT
          have hMr := HM.out
          have c11x : wr.cell? ⟨F + 1, 11, none⟩ = some (.slice none 0 0) := by simp [World.cell?, hMr, msgCells]
          have hgr : g < wr.heap.size := by omega
          have hhBr : wr.heap[B]? = some (.cells (msgRow 0 []) 25 (0, 0)) := by rw [HO.out.block B (by omega) (by omega)]; exact HB6.out
          have HhBr := Lib.hid hhBr
          have hbwr : Below B w wr := hbw6.trans (HO.out.below (by omega) fun q hq => by omega)
          have hLs : Sl EBytes (fun b => w6.heap.size ≤ b) wr aL ts := ho.sl_in (Nat.le_refl _) (Nat.le_refl _)
          have HLs := Lib.hid hLs
          obtain ⟨_, _, e9, hkc, hcm9, _, _⟩ := ho.shape k Htl.out.symm
          injection e9 with e91 e92 e93
          subst e91
          subst e93
          clear hgoT hhBr hLs hMr ho e92
          rcases Nat.lt_or_ge k N with hlt | hge
          all_goals
            first
            | (have hlt' : bv (BitVec.ofNat 64 k) < bv n := by rw [Hbk.out, Hbn.out]; have : k < N := hlt; omega
               obtain ⟨e, hst⟩ : ∃ e, st = .inr e := by
                 cases st with
                 | inl u => exact absurd ⟨hlt, u, rfl⟩ hcond
                 | inr e => exact ⟨e, rfl⟩
               have he0 := hr.err e hst
               have he0' : (e == 0) = false := by simpa using he0
               have herr : Bts.errS st = e := by rw [hst]; rfl
               have Herr := Lib.hid herr
               clear he0 herr hcond hst
               go_wp2_with fail
               refine (bits_ErrS g gd st _ hr).mono ?_
               rintro e9 w9 ⟨rfl, rfl⟩
               rw [Herr.out]
               go_upto_region 25 with fail)
            | (have hge' : ¬ (bv (BitVec.ofNat 64 k) < bv n) := by rw [Hbk.out, Hbn.out]; have : N ≤ k := hge; omega
               clear hcond
               go_upto_region 25 with fail)
          all_goals
            have hwt := wire_text wr.heap.size g gd st wr (by rfl) hr (by omega) (fun q hq => by omega)
            have Hwt := Lib.hid hwt
            clear hwt hr
            go_wp2_with fail
            refine (Hwt.out).mono ?_
            rintro e10 w10 ⟨v10, t, st4, rfl, ho10, hr10, hgo10, hon10, htl10⟩
            obtain ⟨a10, c10, rfl, hc10, hm10, hrs10, ho10'⟩ := ho10.shape t.length rfl
            have hM10 : w10.heap[F + 1]? = some (.cells (msgCells gk ys aL k cL none 0 0) 25 (0, 0)) := by rw [hon10.block (F + 1) (cell_lt c11x) (by omega)]; exact HM.out
            have m11 : w10.cell? ⟨F + 1, 11, none⟩ = some (.slice none 0 0) := by simp [World.cell?, hM10, msgCells]
            have mf11 : w10.frozen? ⟨F + 1, 11, none⟩ = false := by simp [World.frozen?, hM10]
            have hgo4 := Wi.go_ins HgoF.out HgoN.out HgoT.out hgo10
            have hall : (Bts.endS st4 = 0 ∧ Bts.allP Wi.insP (Bts.bitsOf gd) = .inl (ys, ts, t)) ∨ (Bts.endS st4 ≠ 0 ∧ Bts.allP Wi.insP (Bts.bitsOf gd) = .inr (Bts.endS st4)) := by
              refine Bts.go_all ?_ hr10.err
              rw [← Hs0.out]
              exact hgo4
            have Hall := Lib.hid hall
            have hset : Only (· = F + 1) w10 (w10.setCell ⟨F + 1, 11, none⟩ (.slice a10 t.length c10)) := Only.setCell (S := (· = F + 1)) (Only.refl _ _) (p := ⟨F + 1, 11, none⟩) (.inl rfl) _
            have hM11 : (w10.setCell ⟨F + 1, 11, none⟩ (.slice a10 t.length c10)).heap[F + 1]? = some (.cells (msgCells gk ys aL k cL a10 t.length c10) 25 (0, 0)) := by
              have := heap_set hM10 11 (.slice a10 t.length c10)
              simpa [msgCells] using this
            have hr11 : RdS (fun k => F + 2 ≤ k ∧ k < g) (w10.setCell ⟨F + 1, 11, none⟩ (.slice a10 t.length c10)) g gd st4 := hr10.only hset (by omega) (fun q hq => by omega)
            have Hset := Lib.hid hset
            have HM11 := Lib.hid hM11
            have Hon10 := Lib.hid hon10
            have Hd := Lib.hid ho10'.slB
            clear hgo4 hall hset hM11 hM10 ho10 ho10' hrs10 hgo10 hon10 c11x hr10
            go_wp2_with fail
            refine (bits_EndS g gd st4 _ hr11 (by omega)).mono ?_
            rintro e12 w12 ⟨rfl, hb12⟩
            have hs10 : wr.heap.size ≤ w10.heap.size := Hon10.out.size
            have hs11 : w10.heap.size ≤ (w10.setCell ⟨F + 1, 11, none⟩ (.slice a10 t.length c10)).heap.size := Hset.out.size
            have hM12 : w12.heap[F + 1]? = some (.cells (msgCells gk ys aL k cL a10 t.length c10) 25 (0, 0)) := by rw [hb12.block (F + 1) (by omega)]; exact HM11.out
            have hB12 : w12.heap[B]? = some (.cells (msgRow 0 []) 25 (0, 0)) := by
              rw [hb12.block B (by omega), Hset.out.block B (by omega) (by omega), Hon10.out.block B (by omega) (by omega)]; exact HhBr.out
            have hO12 : Only (fun q => q < w6.heap.size) wr w12 :=
              ((Hon10.out.mono (T := fun q => q < w6.heap.size) fun q hq => by omega).trans (Hset.out.mono (T := fun q => q < w6.heap.size) fun q hq => by omega) fun _ _ h => h).trans (Below.only hb12 : Only (fun q => q < w6.heap.size) _ _) fun _ _ h => h
            have hbw12 : Below B w w12 := hbwr.trans ⟨hO12.os, hO12.tape, hO12.output, hO12.size, fun q hq => by
              rw [hb12.block q (by omega), Hset.out.block q (by omega) (by omega), Hon10.out.block q (by omega) (by omega)]⟩
            have HM12 := Lib.hid hM12
            have HB12 := Lib.hid hB12
            have hL12 : Sl EBytes (fun b => w6.heap.size ≤ b) w12 aL ts := HLs.out.mono (by decide) fun q hq hlt => ⟨hO12.block q hlt (by omega), hq⟩
            have hD12 : Sl EU8 (fun b => wr.heap.size ≤ b) w12 a10 t := Hd.out.mono (by decide) fun q hq hlt => ⟨by rw [hb12.block q (by omega), Hset.out.block q (by omega) (by omega)], hq⟩
            have hs12 := hb12.size
            have hbz := Hall.out
            clear hM12 hB12 hb12 hr11 hO12
            obtain ⟨z, hz⟩ : ∃ z, z = Bts.endS st4 := ⟨_, rfl⟩
            rw [← hz] at hbz ⊢
            clear hz
            rcases hbz with ⟨rfl, hall⟩ | ⟨hz0, hall⟩
            · have hRx : R = (gk, (ys, ts, t), 0) := HRm.out ((ys, ts, t), 0) (by unfold Wi.read; rw [hall])
              have HRx := Lib.hid hRx
              clear hRx hall
              go_wp2_with (first
                | (refine wpList_loadRow rfl _ _ rfl (F + 1) rfl (msgCells gk ys aL k cL a10 t.length c10) _ (0, 0) _ HM12.out Try.underlying25 rfl (msg_size _ _ _ _ _ _ _ _) ?_)
                | (refine wpList_storeRow rfl _ _ _ rfl B rfl (msgRow 0 []) (msgCells gk ys aL k cL a10 t.length c10) rfl _ HB12.out (msg_size _ _ _ _ _ _ _ _) rfl (msg_one _ _ _ _ _ _ _ _) ?_))
              refine bodyPost_ret (v := .tuple #[.agg (msgCells gk ys aL k cL a10 t.length c10), .int .i64 0]) ?_ rfl ?_
              · rw [results_cell2 (P := Try.prog) Try.results14 _ _ B 25 (msgCells gk ys aL k cL a10 t.length c10) (0, 0) _ rfl (setRow_at HB12.out) Try.underlying25 rfl (msg_size _ _ _ _ _ _ _ _)]
                rfl
              · rw [HRx.out]
                have hrow := setRow_only w12 B (msgCells gk ys aL k cL a10 t.length c10)
                refine ⟨aL, cL, a10, c10, by rw [Htl.out], by rw [Htl.out]; exact hkc, hcm9, ?_, hc10, hm10, ?_, hbw12.trans (setRow_below _ (by omega) (Nat.le_refl _))⟩
                · exact hL12.mono (by decide) fun q hq hlt => ⟨hrow.block q hlt (by omega), by omega⟩
                · exact hD12.mono (by decide) fun q hq hlt => ⟨hrow.block q hlt (by omega), by omega⟩
            · have hRx : R = (0, Wi.zeroI, z) := by
                have := HRm.out (Wi.zeroI, z) (by unfold Wi.read; rw [hall])
                rw [if_neg hz0] at this; exact this
              have hz0' : (z != 0) = true := by simpa using hz0
              have HRx := Lib.hid hRx
              clear hRx hall hz0
              go_wp2_with (first | (refine wpList_storeRow rfl _ _ _ rfl B rfl (msgRow 0 []) (msgRow 0 []) rfl _ HB12.out (msg_size _ _ _ _ _ _ _ _) rfl (msg_one _ _ _ _ _ _ _ _) ?_))
              exact Hbad.out _ _ z (setRow_at HB12.out) (hbw12.trans (setRow_below _ (by omega) (Nat.le_refl _))) HRx.out rfl rfl
end Go.Proofs.Ytdpopdgeipgheaa


/-
  What the encoder of messages computes.
-/
import Derived.Test.YtdpopdgeipgheaaWir
import Derived.Test.YtdpopdgeipgheaaBtsW
import Derived.Test.YtdpopdgeipgheaaFrameEnc
import Derived.Test.YtdpopdgeipgheaaOpen
import Derived.Test.YtdpopdgeipgheaaAppOn
namespace Go.Proofs.Ytdpopdgeipgheaa
open Go.RowKit
set_option linter.unusedVariables false

/-- nothing of what was there is turned by what comes -/
theorem Wrote.then {g : Nat} {v v1 : Value} {w w1 w2 : World} (h : Wrote g v w v1 w1) (hb : Below w1.heap.size w1 w2) : Wrote g v w v1 w2 :=
  h.trans ⟨Below.only hb, .inl rfl⟩
/-- a writer that was new in w: what else was there is kept -/
theorem Wrote.kept {g : Nat} {v1 : Value} {w w1 : World} (h : Wrote g (.slice none 0 0) w v1 w1) (k : Nat) (hk : k < w.heap.size) (hg : k ≠ g) : w1.heap[k]? = w.heap[k]? :=
  h.only.block k hk fun hs => by rcases hs with hs | hs; exact hg hs; cases hs
theorem Wrote.cell {g : Nat} {v1 : Value} {w w1 : World} (h : Wrote g (.slice none 0 0) w v1 w1) {b o : Nat} {u : Value} (hc : w.cell? ⟨b, o, none⟩ = some u) (hg : b ≠ g) : w1.cell? ⟨b, o, none⟩ = some u := by
  rw [cell_keep (h.kept b (cell_lt hc) hg)]; exact hc

/-- pointers to a message's numbers -/
def wiPtrs (g : Nat) : Array Value := #[.pointer (some ⟨g, 1, none⟩), .pointer (some ⟨g, 2, none⟩), .pointer (some ⟨g, 3, none⟩), .pointer (some ⟨g, 4, none⟩), .pointer (some ⟨g, 5, none⟩), .pointer (some ⟨g, 6, none⟩), .pointer (some ⟨g, 7, none⟩), .pointer (some ⟨g, 8, none⟩), .pointer (some ⟨g, 9, none⟩)]
theorem wiPtrs_get (g j : Nat) (h : j < 9) : (wiPtrs g)[j]? = some (.pointer (some ⟨g, j + 1, none⟩)) := by
  have e : j = 0 ∨ j = 1 ∨ j = 2 ∨ j = 3 ∨ j = 4 ∨ j = 5 ∨ j = 6 ∨ j = 7 ∨ j = 8 := by omega
  rcases e with rfl | rfl | rfl | rfl | rfl | rfl | rfl | rfl | rfl <;> rfl

set_option maxRecDepth 4096 in
set_option maxHeartbeats 1600000 in
theorem wire_fields (g : Nat) (w : World) :
    Calls Try.prog 18 #[.pointer (some ⟨g, 0, none⟩)] w fun e w' => e = .returned (.slice (some ⟨w.heap.size, 0, none⟩) 9 9) ∧ w'.heap[w.heap.size]? = some (.cells (wiPtrs g) 55 (0, 0)) ∧ Below w.heap.size w w' := by
  go_enter Try.func18, Try.ntmps18
  go_wp2_with fail
  go_region
  go_wp2_with fail
  go_ret
  exact ⟨rfl, heap_alloc_new w.drew _, (Below.refl _ w).drew.alloc (Nat.le_refl _) _⟩

/-- a message's cells -/
def msgCells (k : Int) (xs : List Int) (aL : Option Addr) (nL cL : Nat) (aD : Option Addr) (nD cD : Nat) : Array Value :=
  #[.int .i64 k, .int .i64 (Wi.nth xs 0), .int .i64 (Wi.nth xs 1), .int .i64 (Wi.nth xs 2), .int .i64 (Wi.nth xs 3), .int .i64 (Wi.nth xs 4), .int .i64 (Wi.nth xs 5), .int .i64 (Wi.nth xs 6), .int .i64 (Wi.nth xs 7), .int .i64 (Wi.nth xs 8), .slice aL nL cL, .slice aD nD cD]
theorem msgCells_num (k : Int) (xs : List Int) (aL : Option Addr) (nL cL : Nat) (aD : Option Addr) (nD cD : Nat) (j : Nat) (h : j < 9) : (msgCells k xs aL nL cL aD nD cD)[j + 1]? = some (.int .i64 (Wi.nth xs j)) := by
  have e : j = 0 ∨ j = 1 ∨ j = 2 ∨ j = 3 ∨ j = 4 ∨ j = 5 ∨ j = 6 ∨ j = 7 ∨ j = 8 := by omega
  rcases e with rfl | rfl | rfl | rfl | rfl | rfl | rfl | rfl | rfl <;> rfl

namespace Wi
def encErr (k : Int) (x : Ins) : Int := if k < 1 ∨ 7 < k then 14 else if inErr x = 0 then (if 65536 < (Bts.pack (inBits x)).length then 3 else 0) else inErr x
def encOut (k : Int) (x : Ins) : Bts.Bytes := if encErr k x = 0 then Frm.enc k (Bts.pack (inBits x)) else []
end Wi

theorem ti_texts : ElemInfo Try.prog 22 23 EBytes.sz 24 := ElemInfo.mk' (z := .slice none 0 0) Try.underlying22 (by kernel_rfl) rfl (by decide)
/-- one of some texts: where it lies -/
theorem sl_text {ok : Nat → Prop} {w : World} {a : Option Addr} {l : List (List (BitVec 8))} (h : Sl EBytes ok w a l) (j : Nat) (hj : j < l.length) :
    ∃ b o a' c', a = some ⟨b, o, none⟩ ∧ w.cell? ⟨b, o + j, none⟩ = some (.slice a' l[j].length c') ∧ l[j].length ≤ c' ∧ c' ≤ maxLen ∧ Sl EU8 ok w a' l[j] := by
  obtain ⟨b, o, rfl, _, cs, ⟨a', c', rfl, h1, h2, h3⟩, hc⟩ := h j l[j] (List.getElem?_eq_getElem hj)
  refine ⟨b, o, a', c', rfl, ?_, h1, h2, h3⟩
  have := hc 0 _ rfl
  have e : EBytes.sz = 1 := rfl
  rw [e] at this
  simpa using this
theorem sb_ok {ok : Nat → Prop} {w : World} {a : Option Addr} {l : List (BitVec 8)} (h : Sl EU8 ok w a l) (k : Nat) (hk : k < l.length) :
    ∃ b o, a = some ⟨b, o, none⟩ ∧ ok b ∧ w.cell? ⟨b, o + k, none⟩ = some (.int .u8 (bv l[k])) := by
  obtain ⟨b, o, rfl, hb, cs, hr, hc⟩ := h k l[k] (List.getElem?_eq_getElem hk)
  refine ⟨b, o, rfl, hb, ?_⟩
  have hr' : cs = [.int .u8 (bv l[k])] := hr
  subst hr'
  have := hc 0 _ rfl
  have e : EU8.sz = 1 := rfl
  rw [e] at this
  simpa using this
/-- 'x[:n:n]' -/
theorem slice_3 {t te : TypeId} {sz bytes : Nat} {α : Type} {E : Enc α} (hsz : E.sz = sz) (ti : ElemInfo Try.prog t te sz bytes) {ok : Nat → Prop} {w : World} {a : Option Addr} {l : List α} {c : Nat} (h : Sl E ok w a l) (hc : l.length ≤ c) (W : World) :
    (Instr.slice t (.slice a l.length c) none (some (.int .i64 l.length)) (some (.int .i64 l.length))).run Try.prog W = .ok (.slice a l.length l.length) W := by
  obtain ⟨i0, z, hi, hz, hs, hby, hzc⟩ := ti.info
  have e1 : (0 : Int) ≤ (l.length : Int) := by omega
  have e2 : (l.length : Int) ≤ (c : Int) := by omega
  by_cases h0 : l.length = 0
  · simp [Instr.slice, run_underlying ti.under, Instr.sliceBounds, run_sliceBound, sizeOf, typeInfo, hi, h0]
  · obtain ⟨b, o, rfl, _⟩ := h 0 l[0] (List.getElem?_eq_getElem (by omega))
    simp [Instr.slice, run_underlying ti.under, Instr.sliceBounds, run_sliceBound, sizeOf, typeInfo, hi, e2, Addr.add_lit]

set_option maxRecDepth 100000 in
set_option maxHeartbeats 3200000 in
theorem wire_Encode (B : Nat) (k : Int) (xs : List Int) (aL : Option Addr) (nL cL : Nat) (L : List (List (BitVec 8))) (aD : Option Addr) (nD cD : Nat) (D : List (BitVec 8)) (w : World) (hB : w.heap.size = B) (hx : xs.length = 9) (hL : RS EBytes w aL nL L) (hLc : nL ≤ cL) (hLm : cL ≤ maxLen) (hD : RB w aD nD D) (hDc : nD ≤ cD) (hDm : cD ≤ maxLen) :
    Calls Try.prog 9 #[.agg (msgCells k xs aL nL cL aD nD cD)] w fun e w' => ∃ v, e = .returned (.tuple #[v, .int .i64 (Wi.encErr k (xs, L, D))]) ∧ Own EU8 5 B w' v (Wi.encOut k (xs, L, D)) ∧ Below B w w' := by
  obtain ⟨rfl, hLs⟩ := hL
  obtain ⟨rfl, hDs⟩ := hD
  obtain ⟨er, her⟩ : ∃ x, x = Wi.encErr k (xs, L, D) := ⟨_, rfl⟩
  obtain ⟨out, hout⟩ : ∃ x, x = Wi.encOut k (xs, L, D) := ⟨_, rfl⟩
  rw [← her, ← hout]
  have Her := Lib.hid her
  have Hout := Lib.hid hout
  have HB := Lib.hid hB
  have HL := Lib.hid hLs
  have HD := Lib.hid hDs
  obtain ⟨w1, hw1⟩ : ∃ x, x = w.alloc (.cells (msgCells k xs aL L.length cL aD D.length cD) 25) := ⟨_, rfl⟩
  have hh1 : w1.heap[B]? = some (.cells (msgCells k xs aL L.length cL aD D.length cD) 25 (0, 0)) := by subst hw1; subst hB; exact heap_alloc_new w _
  have hb1 : Below B w w1 := by subst hw1; subst hB; exact (Below.refl _ _).alloc (Nat.le_refl _) _
  have hn1 : w1.heap.size = B + 1 := by subst hw1; subst hB; simp
  have z0 : w1.cell? ⟨B, 0, none⟩ = some (.int .i64 k) := by simp [World.cell?, hh1, msgCells]
  have hfail : ∀ e : Int, er = e → e ≠ 0 → out = [] := fun e h h0 => by rw [Hout.out]; unfold Wi.encOut; rw [if_neg (by rw [← Her.out, h]; exact h0)]
  have Hfail := Lib.hid hfail
  have Hh1 := Lib.hid hh1
  have Hn1 := Lib.hid hn1
  clear her hout hLs hDs hfail hh1 hn1
  unfold msgCells at hw1 ⊢
  go_enter Try.func9, Try.ntmps9
  go_upto_region 1 with fail
  rw [← hw1]
  clear hw1
  by_cases k1 : k < 1
  · have he : er = 14 := by rw [Her.out]; unfold Wi.encErr; rw [if_pos (.inl k1)]
    have ho := Hfail.out 14 he (by decide)
    subst he
    subst ho
    clear hB
    go_wp2_with fail
    refine bodyPost_ret (v := .tuple #[.slice none 0 0, .int .i64 14]) (by simp [results, Try.results9, go_sem]) rfl ?_
    exact ⟨_, rfl, Own.nil _ _ _ _, hb1⟩
  by_cases k7 : 7 < k
  · have he : er = 14 := by rw [Her.out]; unfold Wi.encErr; rw [if_pos (.inr k7)]
    have ho := Hfail.out 14 he (by decide)
    subst he
    subst ho
    clear hB
    go_wp2_with fail
    refine bodyPost_ret (v := .tuple #[.slice none 0 0, .int .i64 14]) (by simp [results, Try.results9, go_sem]) rfl ?_
    exact ⟨_, rfl, Own.nil _ _ _ _, hb1⟩
  have herr : er = (if Wi.inErr (xs, L, D) = 0 then (if 65536 < (Bts.pack (Wi.inBits (xs, L, D))).length then 3 else 0) else Wi.inErr (xs, L, D)) := by
    rw [Her.out]; unfold Wi.encErr; rw [if_neg (by omega)]
  have Herr := Lib.hid herr
  obtain ⟨w2, hw2⟩ : ∃ x, x = w1.alloc (.cells #[.slice none 0 0, .int .i64 0] 52) := ⟨_, rfl⟩
  have hb2 : Below w1.heap.size w1 w2 := by subst hw2; exact (Below.refl _ _).alloc (Nat.le_refl _) _
  have ha2 : WrAt w2 (B + 1) (.slice none 0 0) [] := by subst hw2; rw [← Hn1.out]; exact wr_new w1
  have hn2 : w2.heap.size = B + 2 := by subst hw2; simp [Hn1.out]
  have hh2 : w2.heap[B]? = some (.cells (msgCells k xs aL L.length cL aD D.length cD) 25 (0, 0)) := by
    rw [hb2.block B (by rw [Hn1.out]; omega)]; exact Hh1.out
  have Hh2 := Lib.hid hh2
  have hex2 := hw2.symm
  have hB1 := Hn1.out
  clear herr hh2 hw2
  go_upto_region 4 with fail
  clear hB1 hex2 hB z0
  go_wp2_with fail
  refine (wire_fields B _).mono ?_
  rintro e w3 ⟨rfl, hh3, hb3⟩
  rw [hn2] at hh3 ⊢
  have ha3 := ha2.keep hb3
  have hbw3 : Below B w w3 := (hb1.trans (hb2.mono (by rw [Hn1.out]; omega))).trans (hb3.mono (by omega))
  have hp3 : ∀ j, j < 9 → w3.cell? ⟨B + 2, j, none⟩ = some (.pointer (some ⟨B, j + 1, none⟩)) := fun j hj => by simp [World.cell?, hh3, wiPtrs_get _ _ hj]
  have hhB3 : w3.heap[B]? = some (.cells (msgCells k xs aL L.length cL aD D.length cD) 25 (0, 0)) := by rw [hb3.block B (by omega)]; exact Hh2.out
  have hq3 : ∀ j, j < 9 → w3.cell? ⟨B, j + 1, none⟩ = some (.int .i64 (Wi.nth xs j)) := fun j hj => by simp [World.cell?, hhB3, msgCells_num _ _ _ _ _ _ _ _ _ hj]
  have hl10 : w3.cell? ⟨B, 10, none⟩ = some (.slice aL L.length cL) := by simp [World.cell?, hhB3, msgCells]
  have hl11 : w3.cell? ⟨B, 11, none⟩ = some (.slice aD D.length cD) := by simp [World.cell?, hhB3, msgCells]
  have hl0 : w3.cell? ⟨B, 0, none⟩ = some (.int .i64 k) := by simp [World.cell?, hhB3, msgCells]
  have HP3 := Lib.hid hp3
  have HQ3 := Lib.hid hq3
  have H10 := Lib.hid hl10
  have H11 := Lib.hid hl11
  have H0 := Lib.hid hl0
  have Hx := Lib.hid hx
  clear hh3 hb3 hb2 hb1 ha2 hn2 hp3 hhB3 hq3 hl10 hl11 hl0 hx
  go_wp2_with fail
  go_loopw [23] (fun i wr => ∃ (j : Nat) (v : Value), j ≤ 9 ∧ i = .int .i64 j ∧ (∀ y ∈ xs.take j, Wi.numOk y) ∧ WrAt wr (B + 1) v (Wi.numsBits (xs.take j)) ∧ Wrote (B + 1) (.slice none 0 0) w3 v wr) (fun i _ => 9 - (intOf i).toNat)
  case atStart => exact ⟨0, _, Nat.zero_le _, rfl, by simp, by simpa [Wi.numsBits] using ha3, Wrote.refl _ _ _⟩
  case round =>
    obtain ⟨j, v, hj, rfl, hall, ha, hw⟩ := hrel
    clear ha3
    have hbw : Below B w wr := hbw3.trans (hw.below (by have := hbw3.size; rw [HB.out] at this; omega) (by omega) (by simp [Value.ownBlock]))
    by_cases hlt : j < 9
    · have hji : (j : Int) < 9 := by omega
      have pj := hw.cell (HP3.out j hlt) (by omega)
      have qj := hw.cell (HQ3.out j hlt) (by omega)
      have hsn := Wi.numsBits_snoc xs j (by rw [Hx.out]; exact hlt)
      have htk : xs.take (j + 1) = xs.take j ++ [xs[j]'(by rw [Hx.out]; exact hlt)] := (List.take_append_getElem (by rw [Hx.out]; exact hlt)).symm
      rw [← Wi.nth_get] at hsn htk
      have hmem : Wi.nth xs j ∈ xs := by rw [Wi.nth_get xs j (by rw [Hx.out]; exact hlt)]; exact List.getElem_mem _
      have hlen : (Wi.numsBits (xs.take j)).length ≤ 2000 := by
        have := Wi.numsBits_len (xs.take j)
        rw [List.length_take] at this
        omega
      obtain ⟨y, hy⟩ : ∃ y, y = Wi.nth xs j := ⟨_, rfl⟩
      rw [← hy] at qj hsn htk hmem
      have Hsn := Lib.hid hsn
      have Htk := Lib.hid htk
      have Hmem := Lib.hid hmem
      have Hall := Lib.hid hall
      have Hw := Lib.hid hw
      clear hsn htk hmem hall hy hw
      by_cases y0 : y < 0
      · have he : er = 1 := by
          rw [Herr.out]
          have : Wi.inErr (xs, L, D) = 1 := by unfold Wi.inErr; rw [if_neg fun h => by have := (h y Hmem.out).1; omega]
          rw [this]; rfl
        have ho := Hfail.out 1 he (by decide)
        subst he
        subst ho
        go_wp2_with fail
        refine bodyPost_ret (v := .tuple #[.slice none 0 0, .int .i64 1]) (by simp [results, Try.results9, go_sem]) rfl ?_
        exact ⟨_, rfl, Own.nil _ _ _ _, hbw⟩
      by_cases y1 : 1099511627776 < y
      · have he : er = 1 := by
          rw [Herr.out]
          have : Wi.inErr (xs, L, D) = 1 := by unfold Wi.inErr; rw [if_neg fun h => by have := (h y Hmem.out).2; omega]
          rw [this]; rfl
        have ho := Hfail.out 1 he (by decide)
        subst he
        subst ho
        go_wp2_with fail
        refine bodyPost_ret (v := .tuple #[.slice none 0 0, .int .i64 1]) (by simp [results, Try.results9, go_sem]) rfl ?_
        exact ⟨_, rfl, Own.nil _ _ _ _, hbw⟩
      have hall' : ∀ z ∈ xs.take (j + 1), Wi.numOk z := by
        rw [Htk.out]
        intro z hz
        rcases List.mem_append.1 hz with hz | hz
        · exact Hall.out z hz
        · rw [List.mem_singleton.1 hz]; exact ⟨by omega, by omega⟩
      have Hall' := Lib.hid hall'
      clear hall'
      go_wp2_with fail
      refine (bits_Num (B + 1) v _ (BitVec.ofInt 64 y) _ ha (by omega)).mono ?_
      rintro e w5 ⟨rfl, v5, ha5, ht5⟩
      go_wp2_with fail
      go_roundw
      case rel =>
        refine ⟨j + 1, v5, by omega, by go_num, Hall'.out, ?_, Hw.out.trans ht5⟩
        rw [Hsn.out]; exact ha5
      case measure => simp [intOf]; omega
    · have hji : ¬ ((j : Int) < 9) := by omega
      have hj9 : j = 9 := by omega
      have htk : xs.take j = xs := List.take_of_length_le (by rw [Hx.out]; omega)
      rw [htk] at hall ha
      have hlN := Wi.numsBits_len xs
      rw [Hx.out] at hlN
      have l10 := hw.cell H10.out (by omega)
      have HallN := Lib.hid hall
      have Hw := Lib.hid hw
      clear hall hw htk
      by_cases h2 : 2000 < L.length
      · have h2' : 2000 < (L.length : Int) := by omega
        have he : er = 4 := by
          rw [Herr.out]
          have : Wi.inErr (xs, L, D) = 4 := by unfold Wi.inErr; rw [if_pos HallN.out, if_pos h2]
          rw [this]; rfl
        have ho := Hfail.out 4 he (by decide)
        subst he
        subst ho
        go_wp2_with fail
        refine bodyPost_ret (v := .tuple #[.slice none 0 0, .int .i64 4]) (by simp [results, Try.results9, go_sem]) rfl ?_
        exact ⟨_, rfl, Own.nil _ _ _ _, hbw⟩
      have h2' : ¬ (2000 < (L.length : Int)) := by omega
      obtain ⟨N, hN⟩ : ∃ N, N = Wi.numsBits xs := ⟨_, rfl⟩
      rw [← hN] at ha hlN
      have HN := Lib.hid hN
      clear hN h2 hj hlt hj9
      go_wp2_with fail
      refine (bits_Num (B + 1) v _ (BitVec.ofInt 64 L.length) _ ha (by omega)).mono ?_
      rintro e w5 ⟨rfl, v5, ha5, ht5⟩
      have hw5 := Hw.out.trans ht5
      obtain ⟨N2, hN2⟩ : ∃ N2, N2 = N ++ Bts.num (BitVec.ofInt 64 L.length) := ⟨_, rfl⟩
      have hlN2 : N2.length ≤ 2000 := by
        have := Wi.num_le (BitVec.ofInt 64 L.length)
        rw [hN2, List.length_append]; omega
      rw [← hN2] at ha5
      have HN2 := Lib.hid hN2
      have hB5 : B + 1 < w5.heap.size := ha5.lt
      have hbw5 : Below B w w5 := hbw.trans (ht5.below (by have := hbw.size; rw [HB.out] at this; exact this) (by omega) fun b hb => by have := (ha.own b hb).1; omega)
      have m10 := hw5.cell H10.out (by omega)
      have m11 := hw5.cell H11.out (by omega)
      have m0 := hw5.cell H0.out (by omega)
      have hLB : Sl EBytes (fun b => b < B) w5 aL L := HL.out.mono (by decide) fun q _ hq => ⟨hbw5.block q (by rw [← HB.out]; exact hq), by rw [← HB.out]; exact hq⟩
      have hDB : Sl EU8 (fun b => b < B) w5 aD D := HD.out.mono (by decide) fun q _ hq => ⟨hbw5.block q (by rw [← HB.out]; exact hq), by rw [← HB.out]; exact hq⟩
      have hs3 : ∀ W : World, (Instr.slice 22 (.slice aL L.length cL) none (some (.int .i64 L.length)) (some (.int .i64 L.length))).run Try.prog W = .ok (.slice aL L.length L.length) W := slice_3 rfl ti_texts hLB hLc
      have hb6 : Below w5.heap.size w5 (w5.drew.alloc (.cells #[.slice aD D.length cD] 23)) := (Below.refl _ w5).drew.alloc (Nat.le_refl _) _
      have hL6 := hLB.below (by decide) hb6
      have hD6 : Sl EBytes (fun b => b < B ∨ b = w5.heap.size) (w5.drew.alloc (.cells #[.slice aD D.length cD] 23)) (some ⟨w5.heap.size, 0, none⟩) [D] :=
        sl_one (heap_alloc_new w5.drew _) ⟨aD, cD, rfl, hDc, hDm, hDB.mono (by decide) fun q hq hlt => ⟨hb6.block q hlt, .inl hq⟩⟩ (.inr rfl)
      have HL6 := Lib.hid hL6
      have HD6 := Lib.hid hD6
      clear hN2 ha ht5 hw5 hbw hlN hLB hDB hL6 hD6
      go_upto_region 14 with fail
      go_region_held3 (fun W => W.cell? ⟨B, 10, none⟩ = some (.slice aL L.length cL) ∧ W.cell? ⟨B, 11, none⟩ = some (.slice aD D.length cD))
        (first | go_keep | exact ⟨cell_thru m10 hb6, cell_thru m11 hb6⟩ | exact ⟨cell_thru (cell_thru m10 hb6) hb7, cell_thru (cell_thru m11 hb6) hb7⟩)
        ((refine step_app_on (l := L) (l2 := [D]) (n := L.length) (m := 1) (ok' := fun b => b < B ∨ b = w5.heap.size ∨ b = w5.heap.size + 1) EBytes (by rfl) (by rfl) (by rfl) ti_texts rfl HL6.out rfl HD6.out (by decide) (fun b h => .inl h) (fun b h => h.elim .inl (fun h => .inr (.inl h))) (.inr (.inr (by simp))) (by unfold maxLen; omega) (by omega) ?_; intro c7 w7 hT7 hb7))
      obtain ⟨T, hT⟩ : ∃ T, T = L ++ [D] := ⟨_, rfl⟩
      obtain ⟨n, hn⟩ : ∃ n, n = L.length + 1 := ⟨_, rfl⟩
      have hTl : T.length = n := by rw [hT, hn]; simp
      have hb7' := hb6.trans (hb7.mono hb6.size)
      have ha7 := ha5.keep hb7'
      have hv5 : ∀ b, v5.ownBlock = some b → B + 2 ≤ b ∧ b < w5.heap.size := ha5.own
      have hbw7 : Below B w w7 := hbw5.trans (hb7'.mono (by omega))
      have k0 := cell_thru m0 hb7'
      have hsz7 : w5.heap.size + 1 < w7.heap.size := by
        obtain ⟨b, o, a', c', e, hc, _⟩ := sl_text hT7 0 (by simp)
        injection e with e; injection e with e1 e2
        have := cell_lt hc
        rw [← e1] at this; simpa using this
      rw [← hT] at hT7
      rw [show (w5.alloc (.cells #[.slice aD D.length cD] 23)).drew.heap.size = w5.heap.size + 1 by simp] at hT7 ⊢
      rw [← hn, show ((L.length : Int) + 1) = (n : Int) by omega]
      have hokS : ∀ q, (q < B ∨ q = w5.heap.size ∨ q = w5.heap.size + 1) → ¬ (q = B + 1 ∨ v5.ownBlock = some q) := by
        rintro q hq (h | h)
        · omega
        · have := hv5 q h; omega
      have HokS := Lib.hid hokS
      have HT := Lib.hid hT
      have Hn := Lib.hid hn
      have hn1 : n ≤ 2001 := by omega
      have HTl := Lib.hid hTl
      have HT7 := Lib.hid hT7
      have K0 := Lib.hid k0
      have Hv5 := Lib.hid hv5
      have hBw7 : B ≤ w7.heap.size := by omega
      clear hn hokS hT hTl hT7 k0 hv5 hb7' hb7 hb6 m0 m10 m11 ha5 hbw5 hs3 HL6 HD6 l10
      go_wp2_with fail
      go_loopw [68] (fun i wr => ∃ (j : Nat) (v : Value), j ≤ n ∧ i = .int .i64 j ∧ (∀ b ∈ T.take j, Wi.textOk b) ∧ WrAt wr (B + 1) v (N2 ++ Wi.textsBits (T.take j)) ∧ Wrote (B + 1) v5 w7 v wr) (fun i _ => n - (intOf i).toNat)
      case atStart => exact ⟨0, _, Nat.zero_le _, rfl, by simp, by simpa [Wi.textsBits] using ha7, Wrote.refl _ _ _⟩
      case round =>
        clear ha7
        obtain ⟨j, v, hj, rfl, hall, ha, hw⟩ := hrel
        have hbw : Below B w wr := hbw7.trans (hw.below hBw7 (by omega) fun b hb => by have := Hv5.out b hb; omega)
        have hlen : (N2 ++ Wi.textsBits (T.take j)).length ≤ 2000 + 2001 * 32129 := by
          have h1 := Wi.textsBits_len (T.take j) 4000 hall
          have h3 : (T.take j).length ≤ 2001 := by rw [List.length_take]; omega
          have h4 : (T.take j).length * (129 + 8 * 4000) ≤ 2001 * 32129 := Nat.mul_le_mul_right _ h3
          rw [List.length_append]; omega
        by_cases hlt : j < n
        · have hji : (j : Int) < (n : Int) := by omega
          obtain ⟨b1, o1, a', c', e1, p7, hc', hm', hs'⟩ := sl_text HT7.out j (by rw [HTl.out]; exact hlt)
          injection e1 with e1; injection e1 with e1 e2
          subst e1; subst e2
          rw [Nat.zero_add] at p7
          have p1 := (cell_keep (hw.only.block _ (cell_lt p7) (HokS.out _ (.inr (.inr rfl))))).trans p7
          have hsn := Wi.textsBits_snoc T j (by rw [HTl.out]; exact hlt)
          have htk : T.take (j + 1) = T.take j ++ [T[j]'(by rw [HTl.out]; exact hlt)] := (List.take_append_getElem (by rw [HTl.out]; exact hlt)).symm
          have hmem : T[j]'(by rw [HTl.out]; exact hlt) ∈ T := List.getElem_mem _
          obtain ⟨b, hb⟩ : ∃ b, b = T[j]'(by rw [HTl.out]; exact hlt) := ⟨_, rfl⟩
          rw [← hb] at p1 hc' hs' hsn htk hmem
          clear p7
          have Hsn := Lib.hid hsn
          have Htk := Lib.hid htk
          have Hmem := Lib.hid hmem
          have Hall := Lib.hid hall
          have Hw := Lib.hid hw
          have Hs' := Lib.hid hs'
          clear hsn htk hmem hall hb hw hs'
          by_cases h4 : 4000 < b.length
          · have h4' : 4000 < (b.length : Int) := by omega
            have he : er = 3 := by
              rw [Herr.out]
              have : Wi.inErr (xs, L, D) = 3 := by
                have hb3 : ¬ ∀ b ∈ L ++ [D], Wi.textOk b := fun h => by have := h b (by rw [← HT.out]; exact Hmem.out); unfold Wi.textOk at this; omega
                unfold Wi.inErr; rw [if_pos HallN.out, if_neg (by simp only; omega), if_neg hb3]
              rw [this]; rfl
            have ho := Hfail.out 3 he (by decide)
            subst he
            subst ho
            go_wp2_with fail
            refine bodyPost_ret (v := .tuple #[.slice none 0 0, .int .i64 3]) (by simp [results, Try.results9, go_sem]) rfl ?_
            exact ⟨_, rfl, Own.nil _ _ _ _, hbw⟩
          have h4' : ¬ (4000 < (b.length : Int)) := by omega
          go_wp2_with fail
          refine (bits_Num (B + 1) v _ (BitVec.ofInt 64 b.length) _ ha (by omega)).mono ?_
          rintro e w8 ⟨rfl, v8, ha8, ht8⟩
          have hw8 := Hw.out.trans ht8
          obtain ⟨L0, hL0⟩ : ∃ L0, L0 = N2 ++ Wi.textsBits (T.take j) ++ Bts.num (BitVec.ofInt 64 b.length) := ⟨_, rfl⟩
          have hL0l : L0.length ≤ 2200 + 2001 * 32129 := by
            have := Wi.num_le (BitVec.ofInt 64 b.length)
            rw [hL0, List.length_append]; omega
          rw [← hL0] at ha8
          have HL0 := Lib.hid hL0
          have Hbw8 := Lib.hid (hw8)
          clear hL0 ha ht8 hlen p1 hw8
          go_wp2_with fail
          go_loopw [82] (fun i wr => ∃ (q : Nat) (u : Value), q ≤ b.length ∧ i = .int .i64 q ∧ WrAt wr (B + 1) u (L0 ++ Bts.bitsOf (b.take q)) ∧ Wrote (B + 1) v5 w7 u wr) (fun i _ => b.length - (intOf i).toNat)
          case atStart => exact ⟨0, v8, Nat.zero_le _, rfl, by simpa [Bts.bitsOf] using ha8, Hbw8.out⟩
          case round =>
            clear ha8
            obtain ⟨q, u, hq, rfl, ha, hw⟩ := hrel
            have hbw : Below B w wr := hbw7.trans (hw.below hBw7 (by omega) fun b hb => by have := Hv5.out b hb; omega)
            have hlen : (L0 ++ Bts.bitsOf (b.take q)).length ≤ 35000 + 2001 * 32129 := by
              rw [List.length_append, Bts.bitsOf_len, List.length_take]; omega
            by_cases hlq : q < b.length
            · have hqi : (q : Int) < (b.length : Int) := by omega
              obtain ⟨b3, o3, rfl, hb3, p3⟩ := sb_ok Hs'.out q hlq
              have q3 := (cell_keep (hw.only.block _ (cell_lt p3) (HokS.out _ hb3))).trans p3
              have hsn := Wi.bitsOf_snoc b q hlq
              obtain ⟨y, hy⟩ : ∃ y, y = b[q] := ⟨_, rfl⟩
              rw [← hy] at q3 hsn
              have Hsn2 := Lib.hid hsn
              have Hw2 := Lib.hid hw
              clear p3 hsn hy hw hb3
              go_wp2_with fail
              refine (bits_Put (B + 1) u _ (y.setWidth 64) 8 _ ha (by decide) (by omega)).mono ?_
              rintro e w9 ⟨rfl, v9, ha9, ht9⟩
              go_wp2_with fail
              go_roundw
              case rel =>
                refine ⟨q + 1, v9, by omega, by go_num, ?_, Hw2.out.trans ht9⟩
                rw [Hsn2.out, ← List.append_assoc]
                exact ha9
              case measure => simp [intOf]; omega
            · have hqi : ¬ ((q : Int) < (b.length : Int)) := by omega
              rw [List.take_of_length_le (by omega)] at ha
              have hall' : ∀ z ∈ T.take (j + 1), Wi.textOk z := by
                rw [Htk.out]
                intro z hz
                rcases List.mem_append.1 hz with hz | hz
                · exact Hall.out z hz
                · rw [List.mem_singleton.1 hz]; show b.length ≤ 4000; omega
              have Hall' := Lib.hid hall'
              have Hw2 := Lib.hid hw
              clear hall' hw
              go_wp2_with fail
              go_roundw
              case rel =>
                refine ⟨j + 1, u, by omega, by go_num, Hall'.out, ?_, Hw2.out⟩
                rw [Hsn.out, Wi.textBits, ← List.append_assoc, ← List.append_assoc, ← HL0.out]
                exact ha
              case measure => simp [intOf]; omega
        · have hji : ¬ ((j : Int) < (n : Int)) := by omega
          rw [List.take_of_length_le (by rw [HTl.out]; omega)] at hall ha
          have hok : Wi.insOk (xs, L, D) := ⟨Hx.out, HallN.out, by simp only; omega, by rw [← HT.out]; exact hall⟩
          have hbits : N2 ++ Wi.textsBits T = Wi.inBits (xs, L, D) := by
            rw [HN2.out, HN.out, HT.out]; simp only [Wi.inBits, List.append_assoc]
          rw [hbits] at ha
          have herr2 : er = (if 65536 < (Bts.pack (Wi.inBits (xs, L, D))).length then 3 else 0) := by
            rw [Herr.out, if_pos (Wi.inErr_of hok).1]
          have kc := (cell_keep (hw.only.block _ (cell_lt K0.out) (fun h => by rcases h with h | h; omega; have := Hv5.out _ h; omega))).trans K0.out
          obtain ⟨X, hX⟩ : ∃ X, X = Wi.inBits (xs, L, D) := ⟨_, rfl⟩
          have hXl : X.length ≤ 2000 + 2001 * 32129 + 35000 := by
            rw [hX, ← hbits, List.length_append]
            have h1 := Wi.textsBits_len T 4000 hall
            rw [HTl.out] at h1
            have h4 : n * (129 + 8 * 4000) ≤ 2001 * 32129 := Nat.mul_le_mul_right _ hn1
            omega
          rw [← hX] at ha herr2
          have HX := Lib.hid hX
          have Hherr2 := Lib.hid herr2
          clear hX herr2 hbits hall hok hw
          have ha' : WrAt wr.drew (B + 1) v X := ha.keep (Below.refl _ _).drew
          have hBr : B ≤ wr.heap.size := by have := hbw.size; rw [HB.out] at this; exact this
          have hk255 : 0 ≤ k ∧ k ≤ 255 := by omega
          have hXl' : X.length ≤ 1099511627776 := by omega
          clear ha
          go_upto_region 26 with fail
          by_cases h65 : 65536 < (Bts.pack X).length
          · have he : er = 3 := by rw [Hherr2.out, if_pos h65]
            have ho := Hfail.out 3 he (by decide)
            subst he
            subst ho
            go_region_held3 (fun W => W.cell? ⟨B, 0, none⟩ = some (.int .i64 k))
              (first | go_keep | exact cell_thru (w := wr.drew) kc hb8 | exact cell_thru (cell_thru (w := wr.drew) kc hb8) hb9)
              (first
                | (go_at_call 21; refine (bits_Bytes wr.heap.size (B + 1) v X _ (by rfl) ha' hXl').mono ?_; rintro e w8 ⟨v8, rfl, ho8, hb8⟩; obtain ⟨a8, c8, rfl, hc8, hm8, hr8, _⟩ := ho8.shape (Bts.pack X).length rfl)
                | (go_at_call 12; refine (frame_Encode_long k a8 _ c8 _ hk255 h65).mono ?_; rintro e w9 ⟨rfl, hb9⟩))
            go_wp2_with fail
            refine bodyPost_ret (v := .tuple #[.slice none 0 0, .int .i64 3]) (by simp [results, Try.results9, go_sem]) rfl ?_
            exact ⟨_, rfl, Own.nil _ _ _ _, hbw.drew.trans (((hb8.mono (B' := B) hBr).trans (hb9.mono (Nat.le_trans hBr hb8.size))))⟩
          · have he : er = 0 := by rw [Hherr2.out, if_neg h65]
            have ho : out = Frm.enc k (Bts.pack X) := by
              rw [Hout.out]; unfold Wi.encOut; rw [if_pos (by rw [← Her.out]; exact he), HX.out]
            have h65' : (Bts.pack X).length ≤ 65536 := by omega
            subst he
            have Ho := Lib.hid ho
            clear ho
            go_region_held3 (fun W => W.cell? ⟨B, 0, none⟩ = some (.int .i64 k))
              (first | go_keep | exact cell_thru (w := wr.drew) kc hb8 | exact cell_thru (cell_thru (w := wr.drew) kc hb8) hb9)
              (first
                | (go_at_call 21; refine (bits_Bytes wr.heap.size (B + 1) v X _ (by rfl) ha' hXl').mono ?_; rintro e w8 ⟨v8, rfl, ho8, hb8⟩; obtain ⟨a8, c8, rfl, hc8, hm8, hr8, _⟩ := ho8.shape (Bts.pack X).length rfl)
                | (go_at_call 12; refine (frame_Encode_ok k a8 _ c8 (Bts.pack X) _ hk255 h65' hr8).mono ?_; rintro e w9 ⟨v9, rfl, ho9, hb9⟩))
            go_wp2_with fail
            refine bodyPost_ret (v := .tuple #[v9, .int .i64 0]) (by simp [results, Try.results9, go_sem]) rfl ?_
            exact ⟨_, rfl, by rw [Ho.out]; exact ho9.base (Nat.le_trans hBr hb8.size), hbw.drew.trans (((hb8.mono (B' := B) hBr).trans (hb9.mono (Nat.le_trans hBr hb8.size))))⟩
end Go.Proofs.Ytdpopdgeipgheaa

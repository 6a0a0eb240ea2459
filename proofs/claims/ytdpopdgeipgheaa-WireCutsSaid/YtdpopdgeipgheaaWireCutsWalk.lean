
/-
  The walk of the law 'WireCuts'.
-/
import Derived.Test.YtdpopdgeipgheaaWirL
namespace Go.Proofs.Ytdpopdgeipgheaa
open Go.RowKit
set_option linter.unusedVariables false

theorem Own.set_byte {te : TypeId} {base : Nat} {w : World} {a : Option Addr} {n c : Nat} {l : List (BitVec 8)} (h : Own EU8 te base w (.slice a n c) l) (k : Nat) (hk : k < l.length) (x : BitVec 8) :
    ∃ g, a = some ⟨g, 0, none⟩ ∧ w.cell? ⟨g, k, none⟩ = some (.int .u8 (bv l[k])) ∧ w.frozen? ⟨g, k, none⟩ = false ∧ base ≤ g ∧ g < w.heap.size ∧ Own EU8 te base (w.setCell ⟨g, k, none⟩ (.int .u8 (bv x))) (.slice a n c) (l.set k x) := by
  obtain ⟨g, rfl, h1, h2, h3⟩ := h.at k hk
  exact ⟨g, rfl, h2, h3, h1, cell_lt h2, h.set k x⟩

set_option maxRecDepth 100000 in
set_option maxHeartbeats 3200000 in
theorem law_WireCuts (cs : Array Value) (x : Int × Wi.Ins) (at_ : Int) (tw : BitVec 8) (w : World) (hx : EMsg.rep (fun _ => True) w cs.toList x) (hat : -9223372036854775808 ≤ at_ ∧ at_ ≤ 9223372036854775807) :
    Calls Try.prog 6 #[.agg cs, .int .i64 at_, .int .u8 (bv tw)] w fun e w' => e = .returned (.bool true) ∧ Below w.heap.size w w' := by
  obtain ⟨aL, cL, aD, cD, rfl, h9, l1, l2, l3, d1, d2, d3⟩ := msg_val hx
  obtain ⟨k, xs, L, D⟩ := x
  dsimp only at h9 l1 l3 d1 d3 ⊢
  obtain ⟨B, hB⟩ : ∃ B, B = w.heap.size := ⟨_, rfl⟩
  rw [← hB]
  obtain ⟨w1, hw1⟩ : ∃ x, x = w.alloc (.cells (msgCells k xs aL L.length cL aD D.length cD) 25) := ⟨_, rfl⟩
  have hh1 : w1.heap[B]? = some (.cells (msgCells k xs aL L.length cL aD D.length cD) 25 (0, 0)) := by subst hw1; subst hB; exact heap_alloc_new w _
  have hb1 : Below B w w1 := by subst hw1; subst hB; exact (Below.refl _ _).alloc (Nat.le_refl _) _
  have hn1 : w1.heap.size = B + 1 := by subst hw1; subst hB; simp
  have HB := Lib.hid hB
  have Hh1 := Lib.hid hh1
  have hL1 := l3.below (by decide) (by rw [← hB]; exact hb1)
  have hD1 := d3.below (by decide) (by rw [← hB]; exact hb1)
  unfold msgCells at hw1 ⊢
  clear hx hh1 l3 d3
  go_enter Try.func6, Try.ntmps6
  go_upto_region 1 with fail
  rw [← hw1, ← hB]
  clear hw1 hB
  go_wp2_with fail
  refine (law15_head _).mono ?_
  rintro e w2 ⟨rfl, hb2⟩
  have hh2 : w2.heap[B]? = some (.cells (msgCells k xs aL L.length cL aD D.length cD) 25 (0, 0)) := by rw [hb2.block B (by omega)]; exact Hh1.out
  have Hh2 := Lib.hid hh2
  have hL2 := hL1.below (by decide) hb2
  have hD2 := hD1.below (by decide) hb2
  have hbw2 : Below B w w2 := hb1.trans (hb2.mono (by omega))
  have hs2 := hb2.size
  clear hh2 hL1 hD1 hb2
  go_wp2_with (first | (refine wpList_loadRow rfl _ _ rfl B rfl (msgCells k xs aL L.length cL aD D.length cD) _ (0, 0) _ Hh2.out Try.underlying25 rfl (msg_size _ _ _ _ _ _ _ _) ?_))
  refine (law15_big k xs aL cL L aD cD D _ hL2).mono ?_
  rintro e w3 ⟨rfl, hb3⟩
  have hh3 : w3.heap[B]? = some (.cells (msgCells k xs aL L.length cL aD D.length cD) 25 (0, 0)) := by rw [hb3.block B (by omega)]; exact Hh2.out
  have Hh3 := Lib.hid hh3
  have hL3 := hL2.below (by decide) hb3
  have hD3 := hD2.below (by decide) hb3
  have hbw3 : Below B w w3 := hbw2.trans (hb3.mono (by omega))
  have hs3 := hb3.size
  clear hh3 hL2 hD2 hb3 hbw2
  by_cases g1 : Wi.big (k, xs, L, D)
  · rw [decide_eq_true g1]
    clear g1
    go_wp2_with fail
    go_ret
    exact ⟨rfl, hbw3⟩
  rw [decide_eq_false g1]
  clear g1
  go_wp2_with (first | (refine wpList_loadRow rfl _ _ rfl B rfl (msgCells k xs aL L.length cL aD D.length cD) _ (0, 0) _ Hh3.out Try.underlying25 rfl (msg_size _ _ _ _ _ _ _ _) ?_))
  refine (wire_Encode w3.heap.size k xs aL L.length cL L aD D.length cD D _ (by rfl) h9 ⟨rfl, hL3⟩ l1 l2 ⟨rfl, hD3⟩ d1 d2).mono ?_
  rintro e w4 ⟨v4, rfl, ho4, hb4⟩
  obtain ⟨b, hb⟩ : ∃ b, b = Wi.encOut k (xs, L, D) := ⟨_, rfl⟩
  obtain ⟨er, her⟩ : ∃ x, x = Wi.encErr k (xs, L, D) := ⟨_, rfl⟩
  rw [← hb] at ho4
  rw [← her]
  have hbw4 : Below B w w4 := hbw3.trans (hb4.mono (by omega))
  obtain ⟨a4, c4, rfl, hc4, hm4, hr4, _⟩ := ho4.shape b.length rfl
  have Hb := Lib.hid hb
  have Her := Lib.hid her
  have hs4 := hb4.size
  clear hb her hL3 hD3 hb4 hbw3 ho4
  by_cases e0 : ¬ er = 0
  · have e0' : (er != 0) = true := by simpa using e0
    clear e0
    go_wp2_with fail
    go_ret
    exact ⟨rfl, hbw4⟩
  obtain rfl : er = 0 := Decidable.not_not.1 e0
  clear e0
  by_cases h0 : at_ < 0
  · go_wp2_with fail
    go_ret
    exact ⟨rfl, hbw4⟩
  obtain ⟨m, hm⟩ : ∃ m : Nat, at_ = m := ⟨at_.toNat, by omega⟩
  subst hm
  by_cases hmb : b.length ≤ m
  · have hmb' : (b.length : Int) ≤ (m : Int) := by omega
    go_wp2_with fail
    go_ret
    exact ⟨rfl, hbw4⟩
  have hmb' : ¬ ((b.length : Int) ≤ (m : Int)) := by omega
  have hmc : (m : Int) ≤ (c4 : Int) := by omega
  obtain ⟨o1, o2, o3, o4⟩ := Wi.encErr_ok Her.out.symm h9
  obtain ⟨d, hd⟩ : ∃ d, d = Bts.pack (Wi.inBits (xs, L, D)) := ⟨_, rfl⟩
  have hbd : b = Frm.enc k d := by rw [Hb.out, o4, hd]
  have hbl : b.length ≤ 65548 := by rw [hbd, Frm.enc_len, hd]; omega
  have hcut : Wi.dec (b.take m) = (0, Wi.zeroI, 10) := by rw [hbd]; exact Wi.dec_cut o1 (by rw [hd]; exact o3) (by rw [← hbd]; omega)
  have hml : m < b.length := by omega
  have hturn : ∃ r1 r2, Wi.dec (b.set m (b[m] ^^^ tw)) = (r1, r2, if tw = 0#8 then 0 else (Wi.dec (b.set m (b[m] ^^^ tw))).2.2) ∧ (tw ≠ 0#8 → (Wi.dec (b.set m (b[m] ^^^ tw))).2.2 ≠ 0 ∧ r1 = 0) := by
    by_cases ht : tw = 0#8
    · refine ⟨k, (xs, L, D), ?_, fun h => absurd ht h⟩
      rw [if_pos ht, ht, BitVec.xor_zero, List.set_getElem_self, hbd, hd]
      exact Wi.dec_enc o1 o2 o3
    · have h1 : (Wi.dec (b.set m (b[m] ^^^ tw))).2.2 ≠ 0 := by
        have h2 : (Frm.enc k d)[m]? ≠ some (b[m] ^^^ tw) := by
          rw [← hbd, List.getElem?_eq_getElem hml]
          intro e
          injection e with e
          apply ht
          have e2 : b[m] ^^^ (b[m] ^^^ tw) = b[m] ^^^ b[m] := by rw [← e]
          rw [← BitVec.xor_assoc, BitVec.xor_self, BitVec.zero_xor] at e2
          exact e2
        have h3 := Wi.dec_turn o1 (by rw [hd]; exact o3) (p := m) (by rw [← hbd]; exact hml) h2
        rw [← hbd] at h3
        exact h3
      exact ⟨0, Wi.zeroI, by rw [if_neg ht]; exact Wi.dec_bad h1, fun _ => ⟨h1, rfl⟩⟩
  have Hcut := Lib.hid hcut
  have Hturn := Lib.hid hturn
  clear hcut hturn o1 o2 o3 o4 hd hbd hmb
  go_wp2_with fail
  refine (wire_Decode w4.heap.size a4 m c4 (b.take m) _ (by rfl) (RB.take hr4.2 (by omega)) (by omega) hm4).mono ?_
  rw [Hcut.out]
  rintro e w5 ⟨aL5, cL5, aD5, cD5, rfl, _, _, _, _, _, _, hb5⟩
  have hbw5 : Below B w w5 := hbw4.trans (hb5.mono (by omega))
  have hr5 := hr4.below (by decide) hb5
  dsimp only
  unfold msgCells
  have hs5 := hb5.size
  clear hb5 hr4
  go_upto_region 9 with fail
  obtain ⟨w6, hw6⟩ : ∃ x, x = w5.alloc (.cells #[.int .i64 0, .int .i64 (Wi.nth Wi.zeroI.1 0), .int .i64 (Wi.nth Wi.zeroI.1 1), .int .i64 (Wi.nth Wi.zeroI.1 2), .int .i64 (Wi.nth Wi.zeroI.1 3), .int .i64 (Wi.nth Wi.zeroI.1 4), .int .i64 (Wi.nth Wi.zeroI.1 5), .int .i64 (Wi.nth Wi.zeroI.1 6), .int .i64 (Wi.nth Wi.zeroI.1 7), .int .i64 (Wi.nth Wi.zeroI.1 8), .slice aL5 Wi.zeroI.2.1.length cL5, .slice aD5 Wi.zeroI.2.2.length cD5] 25) := ⟨_, rfl⟩
  have hb6 : Below w5.heap.size w5 w6 := by subst hw6; exact (Below.refl _ _).alloc (Nat.le_refl _) _
  have hbw6 : Below B w w6 := hbw5.trans (hb6.mono (by omega))
  have hr6 := hr5.below (by decide) hb6
  have hs6 := hb6.size
  rw [← hw6]
  clear hw6 hb6 hr5 hbw5
  go_wp2_with fail
  refine (ref_Copy a4 b.length c4 b _ hr6 (by omega)).mono ?_
  rintro e w7 ⟨v7, rfl, ho7, hb7⟩
  have hbw7 : Below B w w7 := hbw6.trans (hb7.mono (by omega))
  obtain ⟨a7, c7, rfl, hc7, hm7, hr7, ho7'⟩ := ho7.shape b.length rfl
  obtain ⟨g, rfl, q1, q2, q3, q4, q5⟩ := ho7'.set_byte m hml (b[m] ^^^ tw)
  have hs7 := hb7.size
  have hmi : (m : Int) < (b.length : Int) := by omega
  have hbw8 : Below B w (w7.setCell ⟨g, m, none⟩ (.int .u8 (bv (b[m] ^^^ tw)))) := hbw7.setCell (by show B ≤ g; omega) _
  obtain ⟨a8, c8, e8, hc8, hm8, hr8, _⟩ := q5.shape b.length (by simp)
  injection e8 with e81 e82 e83
  subst e81 e83
  have Q5 := Lib.hid hr8
  clear hr6 hb7 hr7 ho7 ho7' q5 hbw7 hr8 e82
  go_wp2_with fail
  refine (wire_Decode _ (some ⟨g, 0, none⟩) b.length c7 (b.set m (b[m] ^^^ tw)) _ (by rfl) Q5.out hc7 hm7).mono ?_
  obtain ⟨r1, r2, hr, hr'⟩ := Hturn.out
  obtain ⟨er2, her2⟩ : ∃ x, x = if tw = 0#8 then 0 else (Wi.dec (b.set m (b[m] ^^^ tw))).2.2 := ⟨_, rfl⟩
  have hne : tw ≠ 0#8 → er2 ≠ 0 ∧ r1 = 0 := fun h => by rw [her2, if_neg h]; exact hr' h
  have hze : tw = 0#8 → er2 = 0 := fun h => by rw [her2, if_pos h]
  rw [← her2] at hr
  rw [hr]
  rintro e w9 ⟨aL9, cL9, aD9, cD9, rfl, _, _, _, _, _, _, hb9⟩
  have hbw9 : Below B w w9 := hbw8.trans (hb9.mono (by have := hbw8.size; rw [HB.out.symm] at this; exact this))
  obtain ⟨xs9, L9, D9⟩ := r2
  dsimp only
  unfold msgCells
  have hs9 : B ≤ w9.heap.size := by have := hbw9.size; rw [HB.out.symm] at this; exact this
  clear hr her2 hr' hb9 hbw8 q1 q2 q4 hbw6
  by_cases ht : tw = 0#8
  · have he := hze ht
    subst he ht
    clear hne hze
    go_wp2_with fail
    go_ret
    exact ⟨rfl, hbw9.alloc hs9 _⟩
  · obtain ⟨n1, n2⟩ := hne ht
    subst n2
    have n1' : (er2 == 0) = false := by simpa using n1
    have ht' : (tw == 0#8) = false := by simpa using ht
    clear hze hne n1 ht
    go_wp2_with fail
    go_ret
    exact ⟨rfl, hbw9.alloc hs9 _⟩
end Go.Proofs.Ytdpopdgeipgheaa


/-
  The walk of the law 'WireReads'.
-/
import Derived.Test.YtdpopdgeipgheaaWirQ
import Derived.Test.YtdpopdgeipgheaaWirP
import Derived.Test.YtdpopdgeipgheaaWirL
import Derived.Deep.MidRow
namespace Go.Proofs.Ytdpopdgeipgheaa
open Go.RowKit
set_option linter.unusedVariables false

theorem i64_and15 (n : Int) : bits .and .i64 n 15 = n % 16 := by
  have h : bits .and .i64 n 15 = IntKind.i64.wrap ((BitVec.ofInt 64 n &&& BitVec.ofInt 64 15).toNat : Int) := rfl
  rw [h]
  have : (BitVec.ofInt 64 n &&& BitVec.ofInt 64 15).toNat = (BitVec.ofInt 64 n).toNat % 16 := by
    rw [BitVec.toNat_and]
    exact Nat.and_two_pow_sub_one_eq_mod _ 4
  rw [this, BitVec.toNat_ofInt, IntKind.wrap_i64]
  omega

namespace Wi
/-- a frame that is ours, decoded: with what stands behind it -/
theorem dec_frame {k : Int} {d r : Bts.Bytes} (hk : 0 ≤ k ∧ k ≤ 255) (hd : d.length ≤ 65536) :
    dec (Frm.enc k d ++ r) = if r ≠ [] then (0, zeroI, 12) else if k < 1 ∨ 7 < k then (0, zeroI, 14) else if (read (Bts.bitsOf d)).2 = 0 then (k, (read (Bts.bitsOf d)).1, 0) else (0, zeroI, (read (Bts.bitsOf d)).2) := by
  unfold dec
  rw [Frm.dec_enc k d r hk hd]
  dsimp only
  rw [if_neg (by simp)]
  by_cases hr : r = []
  · subst hr
    rw [if_neg (by simp [Frm.enc_len]), if_neg (show ¬ ([] : Bts.Bytes) ≠ [] by simp)]
  · have : 0 < r.length := List.length_pos_iff.2 hr
    rw [if_pos (by rw [List.length_append, Frm.enc_len]; omega), if_pos hr]
end Wi
theorem msg_row12 {w : World} {g t : Nat} {fr : Nat × Nat} {k : Int} {xs : List Int} {aL : Option Addr} {nL cL : Nat} {aD : Option Addr} {nD cD : Nat} (h : w.heap[g]? = some (.cells (msgCells k xs aL nL cL aD nD cD) t fr)) :
    w.cell? ⟨g, 0, none⟩ = some (.int .i64 k) ∧ w.cell? ⟨g, 1, none⟩ = some (.int .i64 (Wi.nth xs 0)) ∧ w.cell? ⟨g, 2, none⟩ = some (.int .i64 (Wi.nth xs 1)) ∧ w.cell? ⟨g, 3, none⟩ = some (.int .i64 (Wi.nth xs 2)) ∧ w.cell? ⟨g, 4, none⟩ = some (.int .i64 (Wi.nth xs 3)) ∧ w.cell? ⟨g, 5, none⟩ = some (.int .i64 (Wi.nth xs 4)) ∧ w.cell? ⟨g, 6, none⟩ = some (.int .i64 (Wi.nth xs 5)) ∧ w.cell? ⟨g, 7, none⟩ = some (.int .i64 (Wi.nth xs 6)) ∧ w.cell? ⟨g, 8, none⟩ = some (.int .i64 (Wi.nth xs 7)) ∧ w.cell? ⟨g, 9, none⟩ = some (.int .i64 (Wi.nth xs 8)) ∧ w.cell? ⟨g, 10, none⟩ = some (.slice aL nL cL) ∧ w.cell? ⟨g, 11, none⟩ = some (.slice aD nD cD) := by
  refine ⟨?_, ?_, ?_, ?_, ?_, ?_, ?_, ?_, ?_, ?_, ?_, ?_⟩ <;> simp [World.cell?, h, msgCells]
theorem ref_row11 {w : World} {g t : Nat} {fr : Nat × Nat} {xs : List Int} {aL : Option Addr} {nL cL : Nat} {aD : Option Addr} {nD cD : Nat} (h : w.heap[g]? = some (.cells (refCells xs aL nL cL aD nD cD) t fr)) :
    w.cell? ⟨g, 0, none⟩ = some (.int .i64 (Wi.nth xs 0)) ∧ w.cell? ⟨g, 1, none⟩ = some (.int .i64 (Wi.nth xs 1)) ∧ w.cell? ⟨g, 2, none⟩ = some (.int .i64 (Wi.nth xs 2)) ∧ w.cell? ⟨g, 3, none⟩ = some (.int .i64 (Wi.nth xs 3)) ∧ w.cell? ⟨g, 4, none⟩ = some (.int .i64 (Wi.nth xs 4)) ∧ w.cell? ⟨g, 5, none⟩ = some (.int .i64 (Wi.nth xs 5)) ∧ w.cell? ⟨g, 6, none⟩ = some (.int .i64 (Wi.nth xs 6)) ∧ w.cell? ⟨g, 7, none⟩ = some (.int .i64 (Wi.nth xs 7)) ∧ w.cell? ⟨g, 8, none⟩ = some (.int .i64 (Wi.nth xs 8)) ∧ w.cell? ⟨g, 9, none⟩ = some (.slice aL nL cL) ∧ w.cell? ⟨g, 10, none⟩ = some (.slice aD nD cD) := by
  refine ⟨?_, ?_, ?_, ?_, ?_, ?_, ?_, ?_, ?_, ?_, ?_⟩ <;> simp [World.cell?, h, refCells]
theorem msg_S23 {W : World} {M G t t' : Nat} {fr fr' : Nat × Nat} {k : Int} {xs : List Int} {L : List (List (BitVec 8))} {D : List (BitVec 8)} {aL aL9 : Option Addr} {cL cL9 : Nat} {aD aD9 : Option Addr} {cD cD9 : Nat} (h : W.heap[M]? = some (.cells (msgCells k xs aL L.length cL aD D.length cD) t fr)) (h' : W.heap[G]? = some (.cells (refCells xs aL9 L.length cL9 aD9 D.length cD9) t' fr')) :
    W.cell? ⟨M, 0, none⟩ = some (.int .i64 k) ∧ W.cell? ⟨M, 1, none⟩ = some (.int .i64 (Wi.nth xs 0)) ∧ W.cell? ⟨M, 2, none⟩ = some (.int .i64 (Wi.nth xs 1)) ∧ W.cell? ⟨M, 3, none⟩ = some (.int .i64 (Wi.nth xs 2)) ∧ W.cell? ⟨M, 4, none⟩ = some (.int .i64 (Wi.nth xs 3)) ∧ W.cell? ⟨M, 5, none⟩ = some (.int .i64 (Wi.nth xs 4)) ∧ W.cell? ⟨M, 6, none⟩ = some (.int .i64 (Wi.nth xs 5)) ∧ W.cell? ⟨M, 7, none⟩ = some (.int .i64 (Wi.nth xs 6)) ∧ W.cell? ⟨M, 8, none⟩ = some (.int .i64 (Wi.nth xs 7)) ∧ W.cell? ⟨M, 9, none⟩ = some (.int .i64 (Wi.nth xs 8)) ∧ W.cell? ⟨M, 10, none⟩ = some (.slice aL L.length cL) ∧ W.cell? ⟨M, 11, none⟩ = some (.slice aD D.length cD) ∧ W.cell? ⟨G, 0, none⟩ = some (.int .i64 (Wi.nth xs 0)) ∧ W.cell? ⟨G, 1, none⟩ = some (.int .i64 (Wi.nth xs 1)) ∧ W.cell? ⟨G, 2, none⟩ = some (.int .i64 (Wi.nth xs 2)) ∧ W.cell? ⟨G, 3, none⟩ = some (.int .i64 (Wi.nth xs 3)) ∧ W.cell? ⟨G, 4, none⟩ = some (.int .i64 (Wi.nth xs 4)) ∧ W.cell? ⟨G, 5, none⟩ = some (.int .i64 (Wi.nth xs 5)) ∧ W.cell? ⟨G, 6, none⟩ = some (.int .i64 (Wi.nth xs 6)) ∧ W.cell? ⟨G, 7, none⟩ = some (.int .i64 (Wi.nth xs 7)) ∧ W.cell? ⟨G, 8, none⟩ = some (.int .i64 (Wi.nth xs 8)) ∧ W.cell? ⟨G, 9, none⟩ = some (.slice aL9 L.length cL9) ∧ W.cell? ⟨G, 10, none⟩ = some (.slice aD9 D.length cD9) :=
  by
  obtain ⟨a0, a1, a2, a3, a4, a5, a6, a7, a8, a9, a10, a11⟩ := msg_row12 h
  obtain ⟨b0, b1, b2, b3, b4, b5, b6, b7, b8, b9, b10⟩ := ref_row11 h'
  exact ⟨a0, a1, a2, a3, a4, a5, a6, a7, a8, a9, a10, a11, b0, b1, b2, b3, b4, b5, b6, b7, b8, b9, b10⟩

set_option maxRecDepth 100000 in
set_option maxHeartbeats 3200000 in
theorem law_WireReads (kd : Int) (a1 : Option Addr) (c1 : Nat) (d : List (BitVec 8)) (a2 : Option Addr) (c2 : Nat) (r : List (BitVec 8)) (w : World) (hkd : -9223372036854775808 ≤ kd ∧ kd ≤ 9223372036854775807)
    (hs1 : Sl EU8 (fun _ => True) w a1 d) (hc1 : d.length ≤ c1) (hm1 : c1 ≤ maxLen) (hs2 : Sl EU8 (fun _ => True) w a2 r) (hc2 : r.length ≤ c2) (hm2 : c2 ≤ maxLen) :
    Calls Try.prog 4 #[.int .i64 kd, .slice a1 d.length c1, .slice a2 r.length c2] w fun e w' => e = .returned (.bool true) ∧ Below w.heap.size w w' := by
  obtain ⟨B, hB⟩ : ∃ B, B = w.heap.size := ⟨_, rfl⟩
  rw [← hB]
  have HB := Lib.hid hB
  obtain ⟨n1, hn1⟩ : ∃ n, n = d.length := ⟨_, rfl⟩
  obtain ⟨n2, hn2⟩ : ∃ n, n = r.length := ⟨_, rfl⟩
  rw [← hn1] at hc1 ⊢
  rw [← hn2] at hc2 ⊢
  have Hn1 := Lib.hid hn1
  have Hn2 := Lib.hid hn2
  have HS1 := Lib.hid hs1
  have HS2 := Lib.hid hs2
  have sl : ∀ wx : World, Below B w wx → RB wx a1 n1 d ∧ Sl EU8 (fun b => b < B) wx a2 r := fun wx h => ⟨⟨Hn1.out, HS1.out.below (by decide) (by rw [← HB.out]; exact h)⟩, HS2.out.mono (by decide) fun q _ hq => ⟨h.block q (by rw [HB.out]; exact hq), by rw [HB.out]; exact hq⟩⟩
  have Sll := Lib.hid sl
  clear hs1 hs2 sl hB hn1 hn2
  go_enter Try.func4, Try.ntmps4
  go_wp2_with fail
  refine (law15_head _).mono ?_
  rintro e w2 ⟨rfl, hb2⟩
  have hbw2 : Below B w w2 := by rw [HB.out]; exact hb2
  clear hb2
  have hk15 := i64_and15 kd
  obtain ⟨k, hk⟩ : ∃ k, k = kd % 16 := ⟨_, rfl⟩
  rw [← hk] at hk15
  have hk0 : 0 ≤ k ∧ k ≤ 15 := by omega
  clear hk
  go_upto_region 4 with fail
  clear hk15 hkd
  by_cases g1 : 3000 < n1
  · have g1' : 3000 < (n1 : Int) := by omega
    clear g1
    go_wp2_with fail
    go_ret
    exact ⟨rfl, hbw2⟩
  have g1' : ¬ 3000 < (n1 : Int) := by omega
  by_cases g2 : 100 < n2
  · have g2' : 100 < (n2 : Int) := by omega
    clear g2
    go_wp2_with fail
    go_ret
    exact ⟨rfl, hbw2⟩
  have g2' : ¬ 100 < (n2 : Int) := by omega
  have hdl : d.length ≤ 65536 := by have := Hn1.out; omega
  have hk255 : 0 ≤ k ∧ k ≤ 255 := by omega
  clear hdl
  go_wp2_with fail
  refine (frame_Encode_ok k a1 n1 c1 d _ hk255 (by have := Hn1.out; omega) (Sll.out _ hbw2).1).mono ?_
  rintro e w3 ⟨v3, rfl, ho3, hb3⟩
  have hbw3 : Below B w w3 := hbw2.trans (hb3.mono (by have := hbw2.size; rw [← HB.out] at this; exact this))
  have hs3 : B ≤ w2.heap.size := by have := hbw2.size; rw [← HB.out] at this; exact this
  have hel : (Frm.enc k d).length ≤ 3012 := by rw [Frm.enc_len]; have := Hn1.out; omega
  have hsl3 : Sl EU8 (fun b => some b ≠ v3.ownBlock) w3 a2 r := (Sll.out _ hbw3).2.mono (by decide) fun q hq _ => ⟨rfl, fun e => by have := (ho3.lt q e.symm).1; omega⟩
  have hb31 : (Frm.enc k d).length + r.length ≤ maxLen := by unfold maxLen; have := Hn2.out; omega
  have hb32 : ((Frm.enc k d).length + r.length) * 1 ≤ 140737488355328 := by have := Hn2.out; omega
  have Hb31 := Lib.hid hb31
  have Hb32 := Lib.hid hb32
  obtain ⟨a3, c3, rfl, hc3, hm3, hr3, _⟩ := ho3.shape _ rfl
  obtain ⟨b, hbb⟩ : ∃ b, b = Frm.enc k d ++ r := ⟨_, rfl⟩
  have Hbb := Lib.hid hbb
  clear hbb
  clear hbw2 hb31 hb32 hel hr3 hc3
  go_wp2_with (first
    | (refine wpList_app EU8 rfl rfl (by rfl) (by rfl) ti_bytes ho3 Hn2.out hsl3 Hb31.out Hb32.out hb3.size ?_
       intro v4 w4 ho4 hg4 hv4 hb4
       rw [← Hbb.out] at ho4
       obtain ⟨a4, c4, rfl, hc4, hm4, hr4, _⟩ := ho4.shape b.length rfl))
  have hbw4 : Below B w w4 := hbw3.trans (hb4.mono hs3)
  clear hg4 hv4 hb4 ho4 hsl3 ho3 hb3
  refine (wire_Decode w4.heap.size a4 b.length c4 b _ (by rfl) hr4 hc4 hm4).mono ?_
  have hdec := Wi.dec_frame (r := r) hk255 (show d.length ≤ 65536 by have := Hn1.out; omega)
  obtain ⟨⟨q, ⟨xs, L, D⟩, f⟩, hq⟩ : ∃ x, x = Wi.dec b := ⟨_, rfl⟩
  rw [← Hbb.out, ← hq] at hdec
  rw [← hq]
  have Hdec := Lib.hid hdec
  clear hq hdec
  rintro e w5 ⟨aL, cL, aD, cD, rfl, p1, p2, p3, q1, q2, q3, hb5⟩
  dsimp only at p1 p2 p3 q1 q2 q3 ⊢
  have hs4 : B ≤ w4.heap.size := by have := hbw4.size; rw [← HB.out] at this; exact this
  have hbw5 : Below B w w5 := hbw4.trans (hb5.mono hs4)
  have hs5 : B ≤ w5.heap.size := Nat.le_trans hs4 hb5.size
  obtain ⟨M, hM⟩ : ∃ M, M = w5.heap.size := ⟨_, rfl⟩
  obtain ⟨w6, hw6⟩ : ∃ x, x = w5.alloc (.cells (msgCells q xs aL L.length cL aD D.length cD) 25) := ⟨_, rfl⟩
  have hba : Below w5.heap.size w5 w6 := by subst hw6; exact (Below.refl _ _).alloc (Nat.le_refl _) _
  have hh6 : w6.heap[M]? = some (.cells (msgCells q xs aL L.length cL aD D.length cD) 25 (0, 0)) := by subst hw6; subst hM; exact heap_alloc_new w5 _
  have hn6 : w6.heap.size = M + 1 := by subst hw6; subst hM; simp
  have hbw6 : Below B w w6 := hbw5.trans (hba.mono hs5)
  have hL6 := p3.below (by decide) hba
  have hD6 := q3.below (by decide) hba
  have HL := Lib.hid hL6
  have HD := Lib.hid hD6
  have Hh6 := Lib.hid hh6
  have HM := Lib.hid hM
  have Hw6 := Lib.hid hw6
  have hBM : B ≤ M := by rw [hM]; exact hs5
  clear hb5 hbw5 hbw4 hba hh6 hM hw6 p3 q3 hr4 hL6 hD6 hc4 hm4 hbw3 hs3 hs4 hs5
  unfold msgCells
  go_upto_region 10 with fail
  have hex := Hw6.out.symm
  unfold msgCells at hex
  rw [hex, ← HM.out]
  clear hex
  have z0 : w6.cell? ⟨M, 0, none⟩ = some (.int .i64 q) := (msg_row12 Hh6.out).1
  by_cases hr : 0 < n2
  · have hd := Hdec.out
    rw [if_pos (fun h => by have := Hn2.out; rw [h] at this; simp at this; omega)] at hd
    simp only [Prod.mk.injEq] at hd
    obtain ⟨rfl, _, rfl⟩ := hd
    have hr' : 0 < (n2 : Int) := by omega
    clear hr
    go_wp2_with fail
    go_ret
    exact ⟨rfl, hbw6⟩
  have hr' : ¬ 0 < (n2 : Int) := by omega
  have hr0 : r = [] := List.eq_nil_of_length_eq_zero (by have := Hn2.out; omega)
  by_cases hk : k < 1 ∨ 7 < k
  · have hd := Hdec.out
    rw [if_neg (by rw [hr0]; simp), if_pos hk] at hd
    simp only [Prod.mk.injEq] at hd
    obtain ⟨rfl, _, rfl⟩ := hd
    clear hr hr0
    by_cases k1 : k < 1
    · clear hk
      go_wp2_with fail
      go_ret
      exact ⟨rfl, hbw6⟩
    · have k7 : 7 < k := by omega
      clear hk
      go_wp2_with fail
      go_ret
      exact ⟨rfl, hbw6⟩
  have k1 : ¬ k < 1 := by omega
  have k7 : ¬ 7 < k := by omega
  have hd := Hdec.out
  rw [if_neg (by rw [hr0]; simp), if_neg hk] at hd
  obtain ⟨⟨⟨ys, T, E⟩, g⟩, hR⟩ : ∃ x, x = Wi.read (Bts.bitsOf d) := ⟨_, rfl⟩
  rw [← hR] at hd
  dsimp only at hd
  have Hd := Lib.hid hd
  have HR := Lib.hid hR
  clear hd hR hr0 hk hr z0
  go_wp2_with fail
  refine (ref15_Read w6.heap.size a1 n1 c1 d _ (by rfl) (Sll.out _ hbw6).1 (by omega)).mono ?_
  rw [← HR.out]
  rintro e w7 ⟨aT, cT, aE, cE, rfl, p4, p5, p6, q4, q5, q6, hb7⟩
  dsimp only at p4 p5 p6 q4 q5 q6 ⊢
  have hbw7 : Below B w w7 := hbw6.trans (hb7.mono (by omega))
  have hh7 : w7.heap[M]? = some (.cells (msgCells q xs aL L.length cL aD D.length cD) 25 (0, 0)) := by rw [hb7.block M (by omega)]; exact Hh6.out
  obtain ⟨G, hG⟩ : ∃ G, G = w7.heap.size := ⟨_, rfl⟩
  have hMG : M + 1 ≤ G := by rw [hG]; have := hb7.size; omega
  obtain ⟨w8, hw8⟩ : ∃ x, x = w7.alloc (.cells (refCells ys aT T.length cT aE E.length cE) 35) := ⟨_, rfl⟩
  have hba : Below w7.heap.size w7 w8 := by subst hw8; exact (Below.refl _ _).alloc (Nat.le_refl _) _
  have hh8 : w8.heap[G]? = some (.cells (refCells ys aT T.length cT aE E.length cE) 35 (0, 0)) := by subst hw8; subst hG; exact heap_alloc_new w7 _
  have hn8 : w8.heap.size = G + 1 := by subst hw8; subst hG; simp
  have hM8 : w8.heap[M]? = some (.cells (msgCells q xs aL L.length cL aD D.length cD) 25 (0, 0)) := by rw [hba.block M (by omega)]; exact hh7
  have hbw8 : Below B w w8 := hbw7.trans (hba.mono (by omega))
  have hL8 := (HL.out.below (by decide) hb7).below (by decide) hba
  have hD8 := (HD.out.below (by decide) hb7).below (by decide) hba
  have hT8 := p6.below (by decide) hba
  have hE8 := q6.below (by decide) hba
  have HL8 := Lib.hid hL8
  have HD8 := Lib.hid hD8
  have HT8 := Lib.hid hT8
  have HE8 := Lib.hid hE8
  have Hh8 := Lib.hid hh8
  have HM8 := Lib.hid hM8
  have HG := Lib.hid hG
  have Hw8 := Lib.hid hw8
  clear hb7 hbw7 hbw6 hba hh8 hG hw8 p6 q6 hL8 hD8 hT8 hE8 hh7 hM8
  unfold refCells
  go_upto_region 15 with fail
  have hex := Hw8.out.symm
  unfold refCells at hex
  rw [hex, ← HG.out]
  clear hex
  by_cases hg : g = 0
  · have hd := Hd.out
    rw [if_pos hg] at hd
    simp only [Prod.mk.injEq] at hd
    obtain ⟨rfl, ⟨rfl, rfl, rfl⟩, rfl⟩ := hd
    subst hg
    have hkk : (q == q) = true := by simp
    have r23 := msg_S23 HM8.out Hh8.out
    have hpn := law15_plain q xs aL L.length cL aD D.length cD
    have Hpn := Lib.hid hpn
    have Two := Lib.hid (show ∀ wx wy : World, G + 1 ≤ wx.heap.size → Below wx.heap.size wx wy → wx.heap[M]? = some (.cells (msgCells q xs aL L.length cL aD D.length cD) 25 (0, 0)) → wx.heap[G]? = some (.cells (refCells xs aT L.length cT aE D.length cE) 35 (0, 0)) →
      wy.heap[M]? = some (.cells (msgCells q xs aL L.length cL aD D.length cD) 25 (0, 0)) ∧ wy.heap[G]? = some (.cells (refCells xs aT L.length cT aE D.length cE) 35 (0, 0)) ∧ G + 1 ≤ wy.heap.size from fun wx wy hs hb h h' => ⟨by rw [hb.block M (by omega)]; exact h, by rw [hb.block G (by omega)]; exact h', Nat.le_trans hs hb.size⟩)
    have hLn : L.length ≤ 1000000 := by
      have := Wi.read_ok (b := d) (by rw [← HR.out])
      rw [← HR.out] at this
      have := this.1.2.2.1
      simp only at this
      omega
    have hfinal : ∀ (wx : World), Below w8.heap.size w8 wx → Calls Try.prog 15 #[.agg (refCells xs aL L.length cL aD D.length cD), .agg (refCells xs aT L.length cT aE D.length cE)] wx fun e w' => e = .returned (.bool true) ∧ Below wx.heap.size wx w' := fun wx hbx => by
      exact ref15_Same xs L D aL aT cL cT aD aE cD cE wx ((HL8.out.any (by decide)).below (by decide) hbx) ((HT8.out.any (by decide)).below (by decide) hbx) ((HD8.out.any (by decide)).below (by decide) hbx) ((HE8.out.any (by decide)).below (by decide) hbx) hLn
    have Hfinal := Lib.hid hfinal
    have hs8 : G + 1 ≤ w8.drew.heap.size := by show G + 1 ≤ w8.heap.size; omega
    clear hfinal hpn hLn
    go_upto_region 19 with fail
    go_region_held3 (fun W => W.cell? ⟨M, 0, none⟩ = some (.int .i64 q) ∧ W.cell? ⟨M, 1, none⟩ = some (.int .i64 (Wi.nth xs 0)) ∧ W.cell? ⟨M, 2, none⟩ = some (.int .i64 (Wi.nth xs 1)) ∧ W.cell? ⟨M, 3, none⟩ = some (.int .i64 (Wi.nth xs 2)) ∧ W.cell? ⟨M, 4, none⟩ = some (.int .i64 (Wi.nth xs 3)) ∧ W.cell? ⟨M, 5, none⟩ = some (.int .i64 (Wi.nth xs 4)) ∧ W.cell? ⟨M, 6, none⟩ = some (.int .i64 (Wi.nth xs 5)) ∧ W.cell? ⟨M, 7, none⟩ = some (.int .i64 (Wi.nth xs 6)) ∧ W.cell? ⟨M, 8, none⟩ = some (.int .i64 (Wi.nth xs 7)) ∧ W.cell? ⟨M, 9, none⟩ = some (.int .i64 (Wi.nth xs 8)) ∧ W.cell? ⟨M, 10, none⟩ = some (.slice aL L.length cL) ∧ W.cell? ⟨M, 11, none⟩ = some (.slice aD D.length cD) ∧ W.cell? ⟨G, 0, none⟩ = some (.int .i64 (Wi.nth xs 0)) ∧ W.cell? ⟨G, 1, none⟩ = some (.int .i64 (Wi.nth xs 1)) ∧ W.cell? ⟨G, 2, none⟩ = some (.int .i64 (Wi.nth xs 2)) ∧ W.cell? ⟨G, 3, none⟩ = some (.int .i64 (Wi.nth xs 3)) ∧ W.cell? ⟨G, 4, none⟩ = some (.int .i64 (Wi.nth xs 4)) ∧ W.cell? ⟨G, 5, none⟩ = some (.int .i64 (Wi.nth xs 5)) ∧ W.cell? ⟨G, 6, none⟩ = some (.int .i64 (Wi.nth xs 6)) ∧ W.cell? ⟨G, 7, none⟩ = some (.int .i64 (Wi.nth xs 7)) ∧ W.cell? ⟨G, 8, none⟩ = some (.int .i64 (Wi.nth xs 8)) ∧ W.cell? ⟨G, 9, none⟩ = some (.slice aT L.length cT) ∧ W.cell? ⟨G, 10, none⟩ = some (.slice aE D.length cE))
      (first | exact msg_S23 tz.1 tz.2.1 | exact msg_S23 tn.1 tn.2.1 | exact msg_S23 HM8.out Hh8.out)
      (first
        | (go_at_call 15; refine (Hfinal.out _ hbx).mono ?_; rintro e wz ⟨rfl, hbz⟩; have tz := Two.out _ _ tn.2.2 hbz tn.1 tn.2.1)
        | (go_at_call 11; refine (Hpn.out w8.drew).mono ?_; rintro e wn ⟨rfl, hbn⟩; have tn := Two.out _ _ hs8 hbn HM8.out Hh8.out; have hbx : Below w8.heap.size w8 wn := ⟨hbn.os, hbn.tape, hbn.output, hbn.size, hbn.block⟩))
    clear r23 tn tz
    go_wp2_with fail
    go_ret
    exact ⟨rfl, hbw8.trans ((hbx.trans (hbz.mono hbx.size)).mono (by omega))⟩
  · have hd := Hd.out
    rw [if_neg hg] at hd
    simp only [Wi.zeroI, Prod.mk.injEq] at hd
    obtain ⟨rfl, ⟨rfl, rfl, rfl⟩, rfl⟩ := hd
    have hg' : (f != 0) = true := by simpa using hg
    have hff : (f != f) = false := by simp
    obtain ⟨z0, z1, z2, z3, z4, z5, z6, z7, z8, z9, z10, z11⟩ := msg_row12 HM8.out
    clear hg
    go_wp2_with fail
    refine (law15_plain 0 [0, 0, 0, 0, 0, 0, 0, 0, 0] aL 0 cL aD 0 cD _).mono ?_
    rintro e w9 ⟨rfl, hb9⟩
    have hbw9 : Below B w w9 := hbw8.trans (hb9.mono (by omega))
    clear hb9 z0 z1 z2 z3 z4 z5 z6 z7 z8 z9 z10 z11
    go_wp2_with fail
    refine (ref15_Same [0, 0, 0, 0, 0, 0, 0, 0, 0] [] [] aL none cL 0 aD none cD 0 _ (Sl.nil _ _ _ _) (Sl.nil _ _ _ _) (Sl.nil _ _ _ _) (Sl.nil _ _ _ _) (by simp)).mono ?_
    rintro e w10 ⟨rfl, hb10⟩
    go_wp2_with fail
    go_ret
    exact ⟨rfl, hbw9.trans (hb10.mono (by have := hbw9.size; rw [← HB.out] at this; exact this))⟩
end Go.Proofs.Ytdpopdgeipgheaa

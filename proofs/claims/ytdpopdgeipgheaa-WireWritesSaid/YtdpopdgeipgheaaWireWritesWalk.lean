
/-
  The walk of the law 'WireWrites'.
-/
import Derived.Test.YtdpopdgeipgheaaWirS
import Derived.Deep.MidRow
namespace Go.Proofs.Ytdpopdgeipgheaa
open Go.RowKit
set_option linter.unusedVariables false

theorem msg_row12 {w : World} {g t : Nat} {fr : Nat × Nat} {k : Int} {xs : List Int} {aL : Option Addr} {nL cL : Nat} {aD : Option Addr} {nD cD : Nat} (h : w.heap[g]? = some (.cells (msgCells k xs aL nL cL aD nD cD) t fr)) :
    w.cell? ⟨g, 0, none⟩ = some (.int .i64 k) ∧ w.cell? ⟨g, 1, none⟩ = some (.int .i64 (Wi.nth xs 0)) ∧ w.cell? ⟨g, 2, none⟩ = some (.int .i64 (Wi.nth xs 1)) ∧ w.cell? ⟨g, 3, none⟩ = some (.int .i64 (Wi.nth xs 2)) ∧ w.cell? ⟨g, 4, none⟩ = some (.int .i64 (Wi.nth xs 3)) ∧ w.cell? ⟨g, 5, none⟩ = some (.int .i64 (Wi.nth xs 4)) ∧ w.cell? ⟨g, 6, none⟩ = some (.int .i64 (Wi.nth xs 5)) ∧ w.cell? ⟨g, 7, none⟩ = some (.int .i64 (Wi.nth xs 6)) ∧ w.cell? ⟨g, 8, none⟩ = some (.int .i64 (Wi.nth xs 7)) ∧ w.cell? ⟨g, 9, none⟩ = some (.int .i64 (Wi.nth xs 8)) ∧ w.cell? ⟨g, 10, none⟩ = some (.slice aL nL cL) ∧ w.cell? ⟨g, 11, none⟩ = some (.slice aD nD cD) := by
  refine ⟨?_, ?_, ?_, ?_, ?_, ?_, ?_, ?_, ?_, ?_, ?_, ?_⟩ <;> simp [World.cell?, h, msgCells]
theorem msg_S4 {W : World} {B M t t' : Nat} {fr fr' : Nat × Nat} {k : Int} {xs : List Int} {L : List (List (BitVec 8))} {D : List (BitVec 8)} {aL aL9 : Option Addr} {cL cL9 : Nat} {aD aD9 : Option Addr} {cD cD9 : Nat} (h : W.heap[B]? = some (.cells (msgCells k xs aL L.length cL aD D.length cD) t fr)) (h' : W.heap[M]? = some (.cells (msgCells k xs aL9 L.length cL9 aD9 D.length cD9) t' fr')) :
    W.cell? ⟨B, 0, none⟩ = some (.int .i64 k) ∧ W.cell? ⟨B, 1, none⟩ = some (.int .i64 (Wi.nth xs 0)) ∧ W.cell? ⟨B, 2, none⟩ = some (.int .i64 (Wi.nth xs 1)) ∧ W.cell? ⟨B, 3, none⟩ = some (.int .i64 (Wi.nth xs 2)) ∧ W.cell? ⟨B, 4, none⟩ = some (.int .i64 (Wi.nth xs 3)) ∧ W.cell? ⟨B, 5, none⟩ = some (.int .i64 (Wi.nth xs 4)) ∧ W.cell? ⟨B, 6, none⟩ = some (.int .i64 (Wi.nth xs 5)) ∧ W.cell? ⟨B, 7, none⟩ = some (.int .i64 (Wi.nth xs 6)) ∧ W.cell? ⟨B, 8, none⟩ = some (.int .i64 (Wi.nth xs 7)) ∧ W.cell? ⟨B, 9, none⟩ = some (.int .i64 (Wi.nth xs 8)) ∧ W.cell? ⟨B, 10, none⟩ = some (.slice aL L.length cL) ∧ W.cell? ⟨B, 11, none⟩ = some (.slice aD D.length cD) ∧ W.cell? ⟨M, 0, none⟩ = some (.int .i64 k) ∧ W.cell? ⟨M, 1, none⟩ = some (.int .i64 (Wi.nth xs 0)) ∧ W.cell? ⟨M, 2, none⟩ = some (.int .i64 (Wi.nth xs 1)) ∧ W.cell? ⟨M, 3, none⟩ = some (.int .i64 (Wi.nth xs 2)) ∧ W.cell? ⟨M, 4, none⟩ = some (.int .i64 (Wi.nth xs 3)) ∧ W.cell? ⟨M, 5, none⟩ = some (.int .i64 (Wi.nth xs 4)) ∧ W.cell? ⟨M, 6, none⟩ = some (.int .i64 (Wi.nth xs 5)) ∧ W.cell? ⟨M, 7, none⟩ = some (.int .i64 (Wi.nth xs 6)) ∧ W.cell? ⟨M, 8, none⟩ = some (.int .i64 (Wi.nth xs 7)) ∧ W.cell? ⟨M, 9, none⟩ = some (.int .i64 (Wi.nth xs 8)) ∧ W.cell? ⟨M, 10, none⟩ = some (.slice aL9 L.length cL9) ∧ W.cell? ⟨M, 11, none⟩ = some (.slice aD9 D.length cD9) :=
  by
  obtain ⟨a0, a1, a2, a3, a4, a5, a6, a7, a8, a9, a10, a11⟩ := msg_row12 h
  obtain ⟨b0, b1, b2, b3, b4, b5, b6, b7, b8, b9, b10, b11⟩ := msg_row12 h'
  exact ⟨a0, a1, a2, a3, a4, a5, a6, a7, a8, a9, a10, a11, b0, b1, b2, b3, b4, b5, b6, b7, b8, b9, b10, b11⟩

theorem Wi.small_pack {k : Int} {xs : List Int} {L : List (List (BitVec 8))} {D : List (BitVec 8)} (h : Wi.insOk (xs, L, D)) (hb : ¬ Wi.big (k, xs, L, D)) : (Bts.pack (Wi.inBits (xs, L, D))).length ≤ 65536 := by
  have hL : L.length ≤ 30 := by
    rcases Nat.lt_or_ge 30 L.length with h1 | h1
    · exact absurd (.inl h1) hb
    · exact h1
  have hs : ∀ b ∈ L, b.length ≤ 500 := fun b hb' => by
    rcases Nat.lt_or_ge 500 b.length with h1 | h1
    · exact absurd (.inr (.inr ⟨b, hb', h1⟩)) hb
    · exact h1
  have hD : D.length ≤ 4000 := h.2.2.2 D (by simp)
  have h1 := Wi.numsBits_len xs
  have h2 := Wi.textsBits_len L 500 hs
  have h3 := Wi.textBits_len D
  have h4 := Wi.num_le (BitVec.ofInt 64 L.length)
  have h9 : xs.length = 9 := h.1
  rw [h9] at h1
  have h5 : L.length * (129 + 8 * 500) ≤ 30 * (129 + 8 * 500) := Nat.mul_le_mul_right _ hL
  have e : (Wi.textsBits (L ++ [D])).length = (Wi.textsBits L).length + (Wi.textBits D).length := by
    simp only [Wi.textsBits, List.map_append, List.flatten_append, List.map_cons, List.map_nil, List.flatten_cons, List.flatten_nil, List.append_nil, List.length_append]
  rw [Bts.pack_len]
  simp only [Wi.inBits, List.length_append, e]
  omega

set_option maxRecDepth 100000 in
set_option maxHeartbeats 3200000 in
theorem law_WireWrites (cs : Array Value) (x : Int × Wi.Ins) (w : World) (hx : EMsg.rep (fun _ => True) w cs.toList x) :
    Calls Try.prog 3 #[.agg cs] w fun e w' => e = .returned (.bool true) ∧ Below w.heap.size w w' := by
  obtain ⟨aL, cL, aD, cD, rfl, h9, l1, l2, l3, d1, d2, d3⟩ := msg_val hx
  obtain ⟨k, xs, L, D⟩ := x
  dsimp only at h9 l1 l3 d1 d3 ⊢
  obtain ⟨B, hB⟩ : ∃ B, B = w.heap.size := ⟨_, rfl⟩
  rw [← hB]
  obtain ⟨w1, hw1⟩ : ∃ x, x = w.alloc (.cells (msgCells k xs aL L.length cL aD D.length cD) 25) := ⟨_, rfl⟩
  have hh1 : w1.heap[B]? = some (.cells (msgCells k xs aL L.length cL aD D.length cD) 25 (0, 0)) := by subst hw1; subst hB; exact heap_alloc_new w _
  have hb1 : Below B w w1 := by subst hw1; subst hB; exact (Below.refl _ _).alloc (Nat.le_refl _) _
  have hn1 : w1.heap.size = B + 1 := by subst hw1; subst hB; simp
  have HB := Lib.hid hB
  have Hh1 := Lib.hid hh1
  have HL := Lib.hid l3
  have HD := Lib.hid d3
  unfold msgCells at hw1 ⊢
  clear hx hh1 l3 d3
  go_enter Try.func3, Try.ntmps3
  go_upto_region 1 with fail
  rw [← hw1, ← hB]
  clear hw1 hB
  have keep : ∀ wx wy : World, B + 1 ≤ wx.heap.size → Below wx.heap.size wx wy → wx.heap[B]? = some (.cells (msgCells k xs aL L.length cL aD D.length cD) 25 (0, 0)) → wy.heap[B]? = some (.cells (msgCells k xs aL L.length cL aD D.length cD) 25 (0, 0)) ∧ B + 1 ≤ wy.heap.size := fun wx wy hs hb h => ⟨by rw [hb.block B (by omega)]; exact h, Nat.le_trans hs hb.size⟩
  have sl : ∀ wx : World, Below B w wx → Sl EBytes (fun _ => True) wx aL L ∧ Sl EU8 (fun _ => True) wx aD D := fun wx h => ⟨HL.out.below (by decide) (by rw [← HB.out]; exact h), HD.out.below (by decide) (by rw [← HB.out]; exact h)⟩
  have Keep := Lib.hid keep
  have Sll := Lib.hid sl
  clear keep sl
  go_wp2_with fail
  refine (law15_head _).mono ?_
  rintro e w2 ⟨rfl, hb2⟩
  have H2 := Lib.hid (Keep.out _ _ (by omega) hb2 Hh1.out)
  have hbw2 : Below B w w2 := hb1.trans (hb2.mono (by omega))
  clear hb2
  go_wp2_with (first | (refine wpList_loadRow rfl _ _ rfl B rfl (msgCells k xs aL L.length cL aD D.length cD) _ (0, 0) _ H2.out.1 Try.underlying25 rfl (msg_size _ _ _ _ _ _ _ _) ?_))
  refine (law15_big k xs aL cL L aD cD D _ (Sll.out _ hbw2).1).mono ?_
  rintro e w3 ⟨rfl, hb3⟩
  have H3 := Lib.hid (Keep.out _ _ H2.out.2 hb3 H2.out.1)
  have hbw3 : Below B w w3 := hbw2.trans (hb3.mono (by have := H2.out.2; omega))
  clear hb3 hbw2
  by_cases g1 : Wi.big (k, xs, L, D)
  · rw [decide_eq_true g1]
    clear g1
    go_wp2_with fail
    go_ret
    exact ⟨rfl, hbw3⟩
  rw [decide_eq_false g1]
  have G1 := Lib.hid g1
  clear g1
  go_wp2_with (first | (refine wpList_loadRow rfl _ _ rfl B rfl (msgCells k xs aL L.length cL aD D.length cD) _ (0, 0) _ H3.out.1 Try.underlying25 rfl (msg_size _ _ _ _ _ _ _ _) ?_))
  refine (wire_Encode w3.heap.size k xs aL L.length cL L aD D.length cD D _ (by rfl) h9 ⟨rfl, (Sll.out _ hbw3).1⟩ l1 l2 ⟨rfl, (Sll.out _ hbw3).2⟩ d1 d2).mono ?_
  rintro e w4 ⟨v4, rfl, ho4, hb4⟩
  have H4 := Lib.hid (Keep.out _ _ H3.out.2 hb4 H3.out.1)
  have hbw4 : Below B w w4 := hbw3.trans (hb4.mono (by have := H3.out.2; omega))
  obtain ⟨b, hb⟩ : ∃ b, b = Wi.encOut k (xs, L, D) := ⟨_, rfl⟩
  obtain ⟨er, her⟩ : ∃ x, x = Wi.encErr k (xs, L, D) := ⟨_, rfl⟩
  rw [← hb] at ho4
  rw [← her]
  obtain ⟨n4, hn4⟩ : ∃ n, n = b.length := ⟨_, rfl⟩
  obtain ⟨a4, c4, rfl, hc4, hm4, hr4, _⟩ := ho4.shape n4 hn4
  have Hb := Lib.hid hb
  have Her := Lib.hid her
  have Hn4 := Lib.hid hn4
  have Hr4 := Lib.hid hr4
  have z0 : w4.cell? ⟨B, 0, none⟩ = some (.int .i64 k) := (msg_row12 H4.out.1).1
  clear hb4 hbw3 ho4 hb her hn4 hr4
  by_cases hk : k < 1 ∨ 7 < k
  · have he : er = 14 := by rw [Her.out]; unfold Wi.encErr; rw [if_pos hk]
    have hb0 : n4 = 0 := by rw [Hn4.out, Hb.out]; unfold Wi.encOut; rw [← Her.out, he]; rfl
    subst he
    subst hb0
    by_cases k1 : k < 1
    · clear hk
      go_wp2_with fail
      go_ret
      exact ⟨rfl, hbw4⟩
    · have k7 : 7 < k := by omega
      clear hk
      go_wp2_with fail
      go_ret
      exact ⟨rfl, hbw4⟩
  have k1 : ¬ k < 1 := by omega
  have k7 : ¬ 7 < k := by omega
  clear hk
  go_wp2_with (first | (refine wpList_loadRow rfl _ _ rfl B rfl (msgCells k xs aL L.length cL aD D.length cD) _ (0, 0) _ H4.out.1 Try.underlying25 rfl (msg_size _ _ _ _ _ _ _ _) ?_))
  refine (law15_plain k xs aL L.length cL aD D.length cD _).mono ?_
  rintro e w5 ⟨rfl, hb5⟩
  have H5 := Lib.hid (Keep.out _ _ H4.out.2 hb5 H4.out.1)
  have hbw5 : Below B w w5 := hbw4.trans (hb5.mono (by have := H4.out.2; omega))
  have Hr5 := Lib.hid (Hr4.out.below (by decide) hb5)
  clear hb5 hbw4 z0
  go_wp2_with fail
  refine (ref15_Inside w5.heap.size xs aL L.length cL L aD D.length cD D _ (by rfl) h9 ⟨rfl, (Sll.out _ hbw5).1⟩ ⟨rfl, (Sll.out _ hbw5).2⟩ d1 d2).mono ?_
  rintro e w6 ⟨v6, rfl, ho6, hb6⟩
  have H6 := Lib.hid (Keep.out _ _ H5.out.2 hb6 H5.out.1)
  have hbw6 : Below B w w6 := hbw5.trans (hb6.mono (by have := H5.out.2; omega))
  have Hr6 := Lib.hid (Hr5.out.below (by decide) hb6)
  obtain ⟨f, hf⟩ : ∃ f, f = Wi.inErr (xs, L, D) := ⟨_, rfl⟩
  obtain ⟨d, hd⟩ : ∃ d, d = Wi.inOut (xs, L, D) := ⟨_, rfl⟩
  rw [← hd] at ho6
  rw [← hf]
  obtain ⟨a6, c6, rfl, hc6, hm6, hr6, _⟩ := ho6.shape d.length rfl
  have Hf := Lib.hid hf
  have Hd := Lib.hid hd
  have herr : er = (if f = 0 then (if 65536 < (Bts.pack (Wi.inBits (xs, L, D))).length then 3 else 0) else f) := by
    rw [Her.out]; unfold Wi.encErr; rw [if_neg (by omega), hf]
  have Herr := Lib.hid herr
  clear hb6 hbw5 ho6 hf hd herr
  by_cases f0 : ¬ f = 0
  · have f0' : (f != 0) = true := by simpa using f0
    have he : er = f := by rw [Herr.out, if_neg f0]
    have hb0 : n4 = 0 := by rw [Hn4.out, Hb.out]; unfold Wi.encOut; rw [← Her.out, he, if_neg f0]; rfl
    have hee : (f == f) = true := by simp
    subst he
    subst hb0
    clear f0
    go_wp2_with fail
    go_ret
    exact ⟨rfl, hbw6⟩
  obtain rfl : f = 0 := Decidable.not_not.1 f0
  clear f0
  have hok : Wi.insOk (xs, L, D) := Wi.inErr_ok Hf.out.symm h9
  have hpk := Wi.small_pack hok G1.out
  have hdd : d = Bts.pack (Wi.inBits (xs, L, D)) := by rw [Hd.out]; exact (Wi.inErr_of hok).2
  have hdl : d.length ≤ 65536 := by rw [hdd]; exact hpk
  have he : er = 0 := by rw [Herr.out, if_pos rfl, if_neg (by omega)]
  have hbe : b = Frm.enc k d := by rw [Hb.out, (Wi.encErr_of (by omega) hok hpk).2, hdd]
  have hdec : Wi.dec b = (k, (xs, L, D), 0) := by rw [hbe, hdd]; exact Wi.dec_enc (by omega) hok hpk
  subst he
  have Hbe := Lib.hid hbe
  have Hdec := Lib.hid hdec
  have hLn : L.length ≤ 1000000 := by have := hok.2.2.1; simp only at this; omega
  have z6 : w6.cell? ⟨B, 0, none⟩ = some (.int .i64 k) := (msg_row12 H6.out.1).1
  have hk255 : 0 ≤ k ∧ k ≤ 255 := by omega
  clear hok hpk hdd hbe hdec
  go_wp2_with fail
  refine (frame_Encode_ok k a6 d.length c6 d _ hk255 hdl hr6).mono ?_
  rintro e w7 ⟨v7, rfl, ho7, hb7⟩
  have H7 := Lib.hid (Keep.out _ _ H6.out.2 hb7 H6.out.1)
  have hbw7 : Below B w w7 := hbw6.trans (hb7.mono (by have := H6.out.2; omega))
  rw [← Hbe.out] at ho7
  obtain ⟨a7, c7, rfl, hc7, hm7, hr7, _⟩ := ho7.shape n4 Hn4.out
  have hr47 := Hr6.out.below (by decide) hb7
  clear hb7 hbw6 ho7 z6 hr6
  go_wp2_with fail
  refine (ref_Same _ _ _ _ _ _ b b _ hr47 hr7).mono ?_
  rw [beq_self_eq_true]
  rintro e w8 ⟨rfl, rfl⟩
  go_wp2_with fail
  refine (wire_Decode w7.heap.size a4 n4 c4 b _ (by rfl) hr47 hc4 hm4).mono ?_
  rw [Hdec.out]
  rintro e w9 ⟨aL9, cL9, aD9, cD9, rfl, p1, p2, p3, q1, q2, q3, hb9⟩
  dsimp only at p1 p2 p3 q1 q2 q3 ⊢
  have H9 := Lib.hid (Keep.out _ _ H7.out.2 hb9 H7.out.1)
  have hbw9 : Below B w w9 := hbw7.trans (hb9.mono (by have := H7.out.2; omega))
  obtain ⟨M, hM⟩ : ∃ M, M = w9.heap.size := ⟨_, rfl⟩
  obtain ⟨wa, hwa⟩ : ∃ x, x = w9.alloc (.cells (msgCells k xs aL9 L.length cL9 aD9 D.length cD9) 25) := ⟨_, rfl⟩
  have hba : Below w9.heap.size w9 wa := by subst hwa; exact (Below.refl _ _).alloc (Nat.le_refl _) _
  have hhM : wa.heap[M]? = some (.cells (msgCells k xs aL9 L.length cL9 aD9 D.length cD9) 25 (0, 0)) := by subst hwa; subst hM; exact heap_alloc_new w9 _
  have hna : wa.heap.size = M + 1 := by subst hwa; subst hM; simp
  have Ha := Lib.hid (Keep.out _ _ H9.out.2 hba H9.out.1)
  have hbwa : Below B w wa := hbw9.trans (hba.mono (by have := H9.out.2; omega))
  have La := p3.below (by decide) hba
  have Da := q3.below (by decide) hba
  have HhM := Lib.hid hhM
  have HM := Lib.hid hM
  have Hwa := Lib.hid hwa
  have hBM : B + 1 ≤ M := by rw [hM]; exact H9.out.2
  clear hb9 hbw9 hba hhM hM hwa p3 q3 hr47 hr7 hbw7
  unfold msgCells
  go_upto_region 15 with fail
  have hex := Hwa.out.symm
  unfold msgCells at hex
  rw [hex, ← HM.out]
  clear hex
  have hkk : (k == k) = true := by simp
  have r24 := msg_S4 Ha.out.1 HhM.out
  have hpn := law15_plain k xs aL9 L.length cL9 aD9 D.length cD9
  have hpm := law15_plain k xs aL L.length cL aD D.length cD
  have Hpn := Lib.hid hpn
  have Hpm := Lib.hid hpm
  have two : ∀ wx wy : World, M + 1 ≤ wx.heap.size → Below wx.heap.size wx wy → wx.heap[B]? = some (.cells (msgCells k xs aL L.length cL aD D.length cD) 25 (0, 0)) → wx.heap[M]? = some (.cells (msgCells k xs aL9 L.length cL9 aD9 D.length cD9) 25 (0, 0)) →
      wy.heap[B]? = some (.cells (msgCells k xs aL L.length cL aD D.length cD) 25 (0, 0)) ∧ wy.heap[M]? = some (.cells (msgCells k xs aL9 L.length cL9 aD9 D.length cD9) 25 (0, 0)) ∧ M + 1 ≤ wy.heap.size := fun wx wy hs hb h h' => ⟨by rw [hb.block B (by omega)]; exact h, by rw [hb.block M (by omega)]; exact h', Nat.le_trans hs hb.size⟩
  have Two := Lib.hid two
  have hfinal : ∀ (wx : World), Below wa.heap.size wa wx → Calls Try.prog 15 #[.agg (refCells xs aL9 L.length cL9 aD9 D.length cD9), .agg (refCells xs aL L.length cL aD D.length cD)] wx fun e w' => e = .returned (.bool true) ∧ Below wx.heap.size wx w' := fun wx hbx => by
    have hbwx : Below B w wx := hbwa.trans (hbx.mono (by omega))
    exact ref15_Same xs L D aL9 aL cL9 cL aD9 aD cD9 cD wx ((La.any (by decide)).below (by decide) hbx) (Sll.out _ hbwx).1 ((Da.any (by decide)).below (by decide) hbx) (Sll.out _ hbwx).2 hLn
  have Hfinal := Lib.hid hfinal
  have hsa : M + 1 ≤ wa.drew.heap.size := by show M + 1 ≤ wa.heap.size; omega
  clear hpn hpm two hfinal La Da
  go_region_held3 (fun W => W.cell? ⟨B, 0, none⟩ = some (.int .i64 k) ∧ W.cell? ⟨B, 1, none⟩ = some (.int .i64 (Wi.nth xs 0)) ∧ W.cell? ⟨B, 2, none⟩ = some (.int .i64 (Wi.nth xs 1)) ∧ W.cell? ⟨B, 3, none⟩ = some (.int .i64 (Wi.nth xs 2)) ∧ W.cell? ⟨B, 4, none⟩ = some (.int .i64 (Wi.nth xs 3)) ∧ W.cell? ⟨B, 5, none⟩ = some (.int .i64 (Wi.nth xs 4)) ∧ W.cell? ⟨B, 6, none⟩ = some (.int .i64 (Wi.nth xs 5)) ∧ W.cell? ⟨B, 7, none⟩ = some (.int .i64 (Wi.nth xs 6)) ∧ W.cell? ⟨B, 8, none⟩ = some (.int .i64 (Wi.nth xs 7)) ∧ W.cell? ⟨B, 9, none⟩ = some (.int .i64 (Wi.nth xs 8)) ∧ W.cell? ⟨B, 10, none⟩ = some (.slice aL L.length cL) ∧ W.cell? ⟨B, 11, none⟩ = some (.slice aD D.length cD) ∧ W.cell? ⟨M, 0, none⟩ = some (.int .i64 k) ∧ W.cell? ⟨M, 1, none⟩ = some (.int .i64 (Wi.nth xs 0)) ∧ W.cell? ⟨M, 2, none⟩ = some (.int .i64 (Wi.nth xs 1)) ∧ W.cell? ⟨M, 3, none⟩ = some (.int .i64 (Wi.nth xs 2)) ∧ W.cell? ⟨M, 4, none⟩ = some (.int .i64 (Wi.nth xs 3)) ∧ W.cell? ⟨M, 5, none⟩ = some (.int .i64 (Wi.nth xs 4)) ∧ W.cell? ⟨M, 6, none⟩ = some (.int .i64 (Wi.nth xs 5)) ∧ W.cell? ⟨M, 7, none⟩ = some (.int .i64 (Wi.nth xs 6)) ∧ W.cell? ⟨M, 8, none⟩ = some (.int .i64 (Wi.nth xs 7)) ∧ W.cell? ⟨M, 9, none⟩ = some (.int .i64 (Wi.nth xs 8)) ∧ W.cell? ⟨M, 10, none⟩ = some (.slice aL9 L.length cL9) ∧ W.cell? ⟨M, 11, none⟩ = some (.slice aD9 D.length cD9))
    (first | exact msg_S4 tz.1 tz.2.1 | exact msg_S4 tm.1 tm.2.1 | exact msg_S4 tn.1 tn.2.1 | exact msg_S4 Ha.out.1 HhM.out)
    (first
      | (go_at_call 15; refine (Hfinal.out _ hbx).mono ?_; rintro e wz ⟨rfl, hbz⟩; have tz := Two.out _ _ tm.2.2 hbz tm.1 tm.2.1)
      | (go_at_call 11; refine (Hpm.out wn).mono ?_; rintro e wm ⟨rfl, hbm⟩; have tm := Two.out _ _ tn.2.2 hbm tn.1 tn.2.1; have hbx : Below wa.heap.size wa wm := (show Below wa.heap.size wa wn from ⟨hbn.os, hbn.tape, hbn.output, hbn.size, hbn.block⟩).trans (hbm.mono hbn.size))
      | (go_at_call 11; refine (Hpn.out wa.drew).mono ?_; rintro e wn ⟨rfl, hbn⟩; have tn := Two.out _ _ hsa hbn Ha.out.1 HhM.out))
  clear r24 tn tm tz
  go_wp2_with fail
  go_ret
  exact ⟨rfl, hbwa.trans ((hbx.trans (hbz.mono hbx.size)).mono (by omega))⟩
end Go.Proofs.Ytdpopdgeipgheaa

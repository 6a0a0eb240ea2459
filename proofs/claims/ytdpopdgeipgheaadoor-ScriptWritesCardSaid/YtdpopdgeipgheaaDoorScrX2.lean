
/-
  The walk of the law 'ScriptWrites'.
-/
import Derived.Test.YtdpopdgeipgheaaDoorScrX1
import Derived.Deep.RegionHeld3
namespace Go.Proofs.YtdpopdgeipgheaaDoor
open Go.RowKit
set_option linter.unusedVariables false

open Classical in
set_option maxRecDepth 100000 in
set_option maxHeartbeats 6400000 in
theorem sw_not7 (cs : Array Value) (x : Sc.Conf) (a1 : Option Addr) (c1 : Nat) (L : List Sc.Step) (n : Int) (w : World) (hbd : Bounds w) (hx : EConf.rep (fun _ => True) w cs.toList x)
    (hs1 : Sl EStp (fun _ => True) w a1 L) (hc1 : L.length ≤ c1) (hm1 : c1 ≤ maxLen) (hn : -9223372036854775808 ≤ n ∧ n ≤ 9223372036854775807) (h7 : n ≠ 7) :
    Calls Tryd.prog 3 #[.agg cs, .slice a1 L.length c1, .int .i64 n] w fun e w' => e = .returned (.bool true) ∧ Below w.heap.size w w' := by
  obtain ⟨rfl, h15⟩ := conf_val hx
  have hgB := hbd.lt
  obtain ⟨B, hB⟩ : ∃ B, B = w.heap.size := ⟨_, rfl⟩
  rw [← hB] at hgB ⊢
  obtain ⟨w1, hw1⟩ : ∃ y, y = w.alloc (.cells (confCells x) 26) := ⟨_, rfl⟩
  have hh1 : w1.heap[B]? = some (.cells (confCells x) 26 (0, 0)) := by subst hw1; subst hB; exact heap_alloc_new w _
  have hb1 : Below B w w1 := by subst hw1; subst hB; exact (Below.refl _ _).alloc (Nat.le_refl _) _
  have hn1 : w1.heap.size = B + 1 := by subst hw1; subst hB; simp
  have HB := Lib.hid hB
  have Hbd := Lib.hid hbd
  have S1 := Lib.hid hs1
  have H15 := Lib.hid h15
  have Hb1 := Lib.hid hb1
  have Hn1 := Lib.hid hn1
  have sl : ∀ wx : World, Below B w wx → Sl EStp (fun b => b < B) wx a1 L ∧ Bounds wx := fun wx h => ⟨hs1.mono (by decide) fun q _ hq => ⟨h.block q (by rw [hB]; exact hq), by rw [hB]; exact hq⟩, hbd.below h hgB⟩
  have Sll := Lib.hid sl
  have blk : ∀ wx : World, Below (B + 1) w1 wx → wx.heap[B]? = some (.cells (confCells x) 26 (0, 0)) ∧ Below B w wx ∧ B + 1 ≤ wx.heap.size := fun wx h => ⟨by rw [h.block B (by omega)]; exact hh1, hb1.trans (h.mono (by omega)), by have := h.size; omega⟩
  have Blk := Lib.hid blk
  clear hx h15 hbd hs1 hh1 hb1 hn1 sl blk
  unfold confCells at hw1 ⊢
  go_enter Tryd.func3, Tryd.ntmps3
  go_upto_region 1 with fail
  rw [← hB, ← hw1]
  clear hw1 hB
  go_wp2_with fail
  refine (law14_head w1 (Sll.out _ Hb1.out).2).mono ?_
  rintro e w2 ⟨rfl, hb2⟩
  rw [Hn1.out] at hb2
  have Hb2 := Lib.hid hb2
  clear hb2
  go_wp2_with fail
  refine (law14_big a1 c1 L w2 ((Sll.out _ (Blk.out _ Hb2.out).2.1).1.any (by decide)) hc1).mono ?_
  rintro e w3 ⟨rfl, hb3⟩
  have Hb3 := Lib.hid (Hb2.out.trans (hb3.mono (Blk.out _ Hb2.out).2.2))
  clear hb3
  by_cases g1 : Sc.isBig L
  · rw [decide_eq_true g1]
    clear g1
    go_wp2_with fail
    go_ret
    exact ⟨rfl, (Blk.out _ Hb3.out).2.1⟩
  rw [decide_eq_false g1]
  obtain ⟨l1, k1⟩ := Sc.small_of g1
  have K1 := Lib.hid k1
  clear g1 k1
  have hn7 : (n == 7) = false := by simpa using h7
  go_upto_region 12 with fail
  clear hn7 h7
  have Hh3 := Lib.hid (Blk.out _ Hb3.out).1
  obtain ⟨er, her⟩ : ∃ z, z = Sc.encErr (x, L) := ⟨_, rfl⟩
  obtain ⟨O, hO⟩ : ∃ z, z = Sc.encOut (x, L) := ⟨_, rfl⟩
  have hbits := Sc.small_bits H15.out l1 K1.out
  have hstp := stp_ok S1.out
  have hOl : O.length ≤ 1000000 := by
    rw [hO]; unfold Sc.encOut
    split
    · rw [Bts.pack_len]; omega
    · simp
  have hfin : er = 0 → Sc.dec (Bts.bitsOf O) = (x, L, 0) := fun h => by
    have hok := Sc.enc_ok (x := (x, L)) (by rw [← her]; exact h) H15.out hstp
    rw [hO, (Sc.enc_of hok).2]
    exact Sc.dec_enc hok
  have Her := Lib.hid her
  have HO := Lib.hid hO
  have Hbits := Lib.hid hbits
  have Hfin := Lib.hid hfin
  have HOl := Lib.hid hOl
  clear her hO hbits hstp hfin hOl
  go_wp2_with (first | (refine wpList_loadRow rfl _ _ rfl B rfl (confCells x) _ (0, 0) _ Hh3.out Tryd.underlying26 rfl size_conf ?_))
  refine (script_Encode w3.heap.size x a1 L.length c1 L w3 rfl (Sll.out _ (Blk.out _ Hb3.out).2.1).2 H15.out ⟨rfl, (Sll.out _ (Blk.out _ Hb3.out).2.1).1.any (by decide)⟩ hc1 hm1 (fun _ => Nat.le_trans Hbits.out (by decide))).mono ?_
  rintro e w4 ⟨v4, rfl, ho4, hb4⟩
  rw [← Her.out]
  rw [← HO.out] at ho4
  obtain ⟨a4, c4, rfl, hc4, hm4, hr4, _⟩ := ho4.shape O.length rfl
  have Hb4 := Lib.hid (Hb3.out.trans (hb4.mono (Blk.out _ Hb3.out).2.2))
  have Hr4 := Lib.hid hr4
  clear ho4 hb4 hr4
  have Hh4 := Lib.hid (Blk.out _ Hb4.out).1
  go_wp2_with (first | (refine wpList_loadRow rfl _ _ rfl B rfl (confCells x) _ (0, 0) _ Hh4.out Tryd.underlying26 rfl size_conf ?_))
  refine (law14_conf x w4).mono ?_
  rintro e w5 ⟨rfl, hb5⟩
  have Hb5 := Lib.hid (Hb4.out.trans (hb5.mono (Blk.out _ Hb4.out).2.2))
  have Hr5 := Lib.hid (Hr4.out.below (by decide) hb5)
  clear hb5
  go_wp2_with fail
  refine (law14_list w5.heap.size a1 c1 L w5 rfl ((Sll.out _ (Blk.out _ Hb5.out).2.1).1.any (by decide)) hc1 (by omega)).mono ?_
  rintro e w6 ⟨b6, d6, rfl, e1, e2, e3, hb6⟩
  have Hb6 := Lib.hid (Hb5.out.trans (hb6.mono (Blk.out _ Hb5.out).2.2))
  have Hr6 := Lib.hid (Hr5.out.below (by decide) hb6)
  have E3 := Lib.hid e3
  clear hb6 e3
  go_wp2_with fail
  refine (ref14_Encode w6.heap.size x b6 L.length d6 L w6 rfl H15.out ⟨rfl, E3.out⟩ e1 e2 (fun _ => Nat.le_trans Hbits.out (by decide))).mono ?_
  rintro e w7 ⟨v7, rfl, ho7, hb7⟩
  rw [← Her.out]
  rw [← HO.out] at ho7
  obtain ⟨a7, c7, rfl, hc7, hm7, hr7, _⟩ := ho7.shape O.length rfl
  have Hb7 := Lib.hid (Hb6.out.trans (hb7.mono (Blk.out _ Hb6.out).2.2))
  have Hr47 := Lib.hid (Hr6.out.below (by decide) hb7)
  have Hr7 := Lib.hid hr7
  clear ho7 hb7 hr7
  have hee : (er != er) = false := by simp
  obtain ⟨ck, hck⟩ : ∃ z, z = Sc.check x := ⟨_, rfl⟩
  have hcc : (ck != ck) = false := by simp
  have Hck := Lib.hid hck
  have Hd7 := Lib.hid (show Below w7.heap.size w7 w7.drew from (Below.refl _ _).drew)
  have TB := Lib.hid (fun (wx : World) (h : Below w7.heap.size w7 wx) => Hb7.out.trans (h.mono (Blk.out _ Hb7.out).2.2))
  have hsame := Lib.hid (fun (wx : World) (h : Below w7.heap.size w7 wx) => ref_Same a4 a7 O.length O.length c4 c7 O O wx (Hr47.out.below (by decide) h) (Hr7.out.below (by decide) h))
  have hchk := Lib.hid (fun (wx : World) (h : Below w7.heap.size w7 wx) => script_Check x wx (Sll.out _ (Blk.out _ (TB.out _ h)).2.1).2)
  clear hck
  go_upto_region 14 with fail
  go_region_held3 (fun W => W.cell? ⟨B, 0, none⟩ = some (.int .i64 (Sc.cf x 0)) ∧ W.cell? ⟨B, 1, none⟩ = some (.int .i64 (Sc.cf x 1)) ∧ W.cell? ⟨B, 2, none⟩ = some (.int .i64 (Sc.cf x 2)) ∧ W.cell? ⟨B, 3, none⟩ = some (.int .i64 (Sc.cf x 3)) ∧ W.cell? ⟨B, 4, none⟩ = some (.int .i64 (Sc.cf x 4)) ∧ W.cell? ⟨B, 5, none⟩ = some (.int .i64 (Sc.cf x 5)) ∧ W.cell? ⟨B, 6, none⟩ = some (.int .i64 (Sc.cf x 6)) ∧ W.cell? ⟨B, 7, none⟩ = some (.int .i64 (Sc.cf x 7)) ∧ W.cell? ⟨B, 8, none⟩ = some (.int .i64 (Sc.cf x 8)) ∧ W.cell? ⟨B, 9, none⟩ = some (.int .u64 (bv x.2)) ∧ W.cell? ⟨B, 10, none⟩ = some (.int .i64 (Sc.cf x 9)) ∧ W.cell? ⟨B, 11, none⟩ = some (.int .i64 (Sc.cf x 10)) ∧ W.cell? ⟨B, 12, none⟩ = some (.int .i64 (Sc.cf x 11)) ∧ W.cell? ⟨B, 13, none⟩ = some (.int .i64 (Sc.cf x 12)) ∧ W.cell? ⟨B, 14, none⟩ = some (.int .i64 (Sc.cf x 13)) ∧ W.cell? ⟨B, 15, none⟩ = some (.int .i64 (Sc.cf x 14)))
    (first | exact scw_S16 (Blk.out _ (TB.out _ hbr)).1 | exact scw_S16 (Blk.out _ (TB.out _ hbn)).1 | exact scw_S16 (Blk.out _ (TB.out _ hbk)).1 | exact scw_S16 (Blk.out _ (TB.out _ Hd7.out)).1)
    (first
      | (go_at_call 16; refine (ref14_Check x wn).mono ?_; rw [← Hck.out]; rintro e wr ⟨rfl, hbr0⟩; have hbr : Below w7.heap.size w7 wr := hbn.trans (hbr0.mono hbn.size))
      | (go_at_call 12; refine (law14_conf x wk).mono ?_; rintro e wn ⟨rfl, hbn0⟩; have hbn : Below w7.heap.size w7 wn := hbk.trans (hbn0.mono hbk.size))
      | (go_at_call 15; refine (hchk.out _ hby).mono ?_; rw [← Hck.out]; rintro e wk ⟨rfl, hbk0⟩; have hbk : Below w7.heap.size w7 wk := hby.trans (hbk0.mono hby.size))
      | (go_at_call 14; refine (hsame.out _ Hd7.out).mono ?_; rw [beq_self_eq_true]; rintro e wy ⟨rfl, rfl⟩; have hby : Below w7.heap.size w7 w7.drew := Hd7.out))
  have Hbr := Lib.hid (TB.out _ hbr)
  have Hro := Lib.hid (Hr47.out.below (by decide) hbr)
  clear hbr hbn hbk hby hee hcc hsame hchk
  by_cases e0 : er = 0
  case neg =>
    have hz : (er != 0) = true := by simpa using e0
    clear e0
    go_wp2_with fail
    go_ret
    exact ⟨rfl, (Blk.out _ Hbr.out).2.1⟩
  subst e0
  have hdec := Hfin.out rfl
  have Hdec := Lib.hid hdec
  clear hdec
  go_wp2_with fail
  refine (script_Decode wr.heap.size a4 O.length c4 O wr rfl Hro.out hc4 hm4 HOl.out (Sll.out _ (Blk.out _ Hbr.out).2.1).2).mono ?_
  rintro e w12 ⟨aR, cR, rfl, t1, t2, t3, hb12⟩
  rw [Hdec.out] at t1 t3 ⊢
  dsimp only at t1 t3 ⊢
  have Hb12 := Lib.hid (Hbr.out.trans (hb12.mono (Blk.out _ Hbr.out).2.2))
  obtain ⟨M, hM⟩ : ∃ M, M = w12.heap.size := ⟨_, rfl⟩
  obtain ⟨w13, hw13⟩ : ∃ y, y = w12.alloc (.cells (confCells x) 26) := ⟨_, rfl⟩
  have hb13 : Below w12.heap.size w12 w13 := by subst hw13; exact (Below.refl _ _).alloc (Nat.le_refl _) _
  have hh13 : w13.heap[M]? = some (.cells (confCells x) 26 (0, 0)) := by subst hw13; subst hM; exact heap_alloc_new w12 _
  have Hb13 := Lib.hid (Hb12.out.trans (hb13.mono (Blk.out _ Hb12.out).2.2))
  have T13 := Lib.hid ((t3.any (by decide)).below (by decide) hb13)
  have hhB := (Blk.out _ Hb13.out).1
  have HhM := Lib.hid hh13
  have HhB := Lib.hid hhB
  have HM := Lib.hid hM
  have Hw13 := Lib.hid hw13
  clear hb12 t3 hb13 hw13 hh13 hhB hM
  unfold confCells
  go_upto_region 19 with fail
  have hex := Hw13.out.symm
  unfold confCells at hex
  rw [hex, ← HM.out]
  clear hex
  go_wp2_with (first
    | (refine wpList_loadRowG (by rfl) _ _ rfl M rfl (confCells x) _ (0, 0) _ HhM.out Tryd.underlying26 rfl (conf_size _) ?_)
    | (refine wpList_loadRowG (by rfl) _ _ rfl B rfl (confCells x) _ (0, 0) _ HhB.out Tryd.underlying26 rfl (conf_size _) ?_)
    | (refine wpList_eqlG (by rfl) _ _ _ rfl x rfl rfl ?_))
  refine (law14_list w13.heap.size aR cR L w13 rfl T13.out t1 (by omega)).mono ?_
  rintro e w14 ⟨b1, d1, rfl, f1, f2, f3, hb14⟩
  have Hb14 := Lib.hid (Hb13.out.trans (hb14.mono (Blk.out _ Hb13.out).2.2))
  have F3 := Lib.hid f3
  clear hb14 f3
  go_wp2_with fail
  refine (law14_list w14.heap.size a1 c1 L w14 rfl ((Sll.out _ (Blk.out _ Hb14.out).2.1).1.any (by decide)) hc1 (by omega)).mono ?_
  rintro e w15 ⟨b2, d2, rfl, g1, g2, g3, hb15⟩
  have Hb15 := Lib.hid (Hb14.out.trans (hb15.mono (Blk.out _ Hb14.out).2.2))
  have F15 := Lib.hid (F3.out.below (by decide) hb15)
  have G3 := Lib.hid g3
  clear hb15 g3
  go_wp2_with fail
  refine (ref14_Same b1 b2 d1 d2 L L w15 F15.out G3.out f1 g1 f2).mono ?_
  rintro e w16 ⟨rfl, hb16⟩
  have Hb16 := Lib.hid (Hb15.out.trans (hb16.mono (Blk.out _ Hb15.out).2.2))
  clear hb16
  go_wp2_with fail
  go_ret
  exact ⟨by simp, (Blk.out _ Hb16.out).2.1⟩
end Go.Proofs.YtdpopdgeipgheaaDoor

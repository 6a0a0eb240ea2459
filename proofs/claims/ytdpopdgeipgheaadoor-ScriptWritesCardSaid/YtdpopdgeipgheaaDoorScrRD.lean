
/-
  What the document's own decoder of setups and scripts computes.
-/
import Derived.Test.YtdpopdgeipgheaaDoorScrQ
import Derived.Deep.CutBlock
namespace Go.Proofs.YtdpopdgeipgheaaDoor
open Go.RowKit
set_option linter.unusedVariables false

abbrev rzero : Array Value := rcells ([], 0#64)

set_option maxRecDepth 100000 in
set_option maxHeartbeats 6400000 in
theorem ref14_Decode (B : Nat) (a : Option Addr) (nb c : Nat) (b : List (BitVec 8)) (w : World) (hB : w.heap.size = B) (hr : RB w a nb b) (hl : nb ≤ 10000) :
    Calls Tryd.prog 20 #[.slice a nb c] w (RefScrPost B (Sc.dec (Bts.bitsOf b)) w) := by
  obtain ⟨R, hR⟩ : ∃ R, R = Sc.dec (Bts.bitsOf b) := ⟨_, rfl⟩
  rw [← hR]
  have hbl : (Bts.bitsOf b).length = 8 * nb := by rw [Bts.bitsOf_len, hr.1]
  obtain ⟨w1, hw1⟩ : ∃ x, x = w.alloc (.cells rzero 39) := ⟨_, rfl⟩
  have hh1 : w1.heap[B]? = some (.cells rzero 39 (0, 0)) := by subst hw1; subst hB; exact heap_alloc_new w _
  have hb1 : Below B w w1 := by subst hw1; subst hB; exact (Below.refl _ _).alloc (Nat.le_refl _) _
  have hn1 : w1.heap.size = B + 1 := by subst hw1; subst hB; simp
  have hr1 : RB w1 a nb b := ⟨hr.1, hr.2.below (by decide) (by rw [hB]; exact hb1)⟩
  have HR := Lib.hid hR
  have HB := Lib.hid hB
  have hbad : ∀ (wx : World) (T : Array Value) (e : Int), wx.heap[B]? = some (.cells rzero 39 (0, 0)) → Below B w wx → R = (Sc.zeroC, [], e) → T.getD 2 undef = .pointer (some ⟨B, 0, none⟩) → T.getD 3 undef = .slice none 0 0 → T.getD 4 undef = .int .i64 e →
      bodyPost Tryd.prog Tryd.f20 (RefScrPost B R w) Exit.ret { tmps := T, defers := [] } wx := by
    intro wx T e hx hb hr h2 h3 h4
    refine bodyPost_ret (v := .tuple #[.agg rzero, .slice none 0 0, .int .i64 e]) ?_ rfl ?_
    · rw [results_cell3 (P := Tryd.prog) Tryd.results20 T _ B 39 rzero (0, 0) _ h2 hx Tryd.underlying39 rfl (rconf_size _), h3, h4]
    · rw [hr]
      exact ⟨none, 0, rfl, Nat.le_refl _, Nat.zero_le _, Sl.nil _ _ _ _, hb⟩
  have Hbad := Lib.hid hbad
  have Hw1 := Lib.hid hw1
  have Hh1 := Lib.hid hh1
  clear hr hbad hR hw1 hh1
  go_enter Tryd.func20, Tryd.ntmps20
  go_upto_region 1 with fail
  have hex : w.alloc (.cells #[.int .i64 0, .int .i64 0, .int .i64 0, .int .i64 0, .int .i64 0, .int .i64 0, .int .i64 0, .int .i64 0, .int .i64 0, .int .i64 0, .int .i64 0, .int .i64 0, .int .i64 0, .int .i64 0, .int .i64 0, .int .u64 0] 39) = w1 := Hw1.out.symm
  rw [hex]
  clear hex hB
  go_wp2_with fail
  refine (ref_Bits a nb c b (B + 1) _ hn1 hr1 (by omega)).mono ?_
  rintro e w2 ⟨v2, rfl, ho2, hb2⟩
  obtain ⟨l, hll⟩ : ∃ l, l = Bts.bitsOf b := ⟨_, rfl⟩
  rw [← hll] at ho2 hbl
  obtain ⟨a2, c2, rfl, hc2, hm2, hr2, ho2'⟩ := ho2.shape l.length (by rw [Bts.asB_len])
  obtain ⟨M, hM⟩ : ∃ M, M = w2.heap.size := ⟨_, rfl⟩
  have hBM : B + 1 ≤ M := by rw [hM]; have := hb2.size; omega
  have hs2 : Sl EU8 (fun k => B + 1 ≤ k ∧ k < M) w2 a2 (Bts.asB l) := ho2'.slB.mono (by decide) fun k hk hlt => ⟨rfl, hk, by rw [hM]; exact hlt⟩
  obtain ⟨w3, hw3⟩ : ∃ x, x = w2.alloc (.cells rzero 39) := ⟨_, rfl⟩
  have hb3 : Below M w2 w3 := by subst hw3; subst hM; exact (Below.refl _ _).alloc (Nat.le_refl _) _
  have hh3 : w3.heap[M]? = some (.cells rzero 39 (0, 0)) := by subst hw3; subst hM; exact heap_alloc_new w2 _
  have hn3 : w3.heap.size = M + 1 := by subst hw3; subst hM; simp
  have hhB3 : w3.heap[B]? = some (.cells rzero 39 (0, 0)) := by rw [hb3.block B (by omega), hb2.block B (by omega)]; exact Hh1.out
  have hbw3 : Below B w w3 := (hb1.trans (hb2.mono (by omega))).trans (hb3.mono (by omega))
  have hs3 : Sl EU8 (fun k => B + 1 ≤ k ∧ k < M) w3 a2 (Bts.asB l) := hs2.below (by decide) (by rw [← hM]; exact hb3)
  have HM := Lib.hid hM
  have Hw3 := Lib.hid hw3
  have Hll := Lib.hid hll
  have HhB3 := Lib.hid hhB3
  have Hbw3 := Lib.hid hbw3
  have hl8 : l.length ≤ 80000 := by omega
  clear ho2 ho2' hr2 hs2 hw3 hM hll hhB3 hb3 hb2 hb1 hr1 hbl hn1 hbw3
  go_upto_region 3 with fail
  have hex : w2.alloc (.cells #[.int .i64 0, .int .i64 0, .int .i64 0, .int .i64 0, .int .i64 0, .int .i64 0, .int .i64 0, .int .i64 0, .int .i64 0, .int .i64 0, .int .i64 0, .int .i64 0, .int .i64 0, .int .i64 0, .int .i64 0, .int .u64 0] 39) = w3 := Hw3.out.symm
  rw [hex, ← HM.out]
  clear hex
  go_wp2_with fail
  go_loopw [5, 35] (fun t5 i wr => ∃ (j : Nat) (vs : List (BitVec 64)) (t : Bts.Bits) (a4 : Option Addr) (c4 : Nat), t5 = .slice a4 t.length c4 ∧ t.length ≤ c4 ∧ t.length ≤ 80000 ∧ i = .int .i64 j ∧ j ≤ 15 ∧ vs.length = j ∧ Sl EU8 (fun k => B + 1 ≤ k ∧ k < M) wr a4 (Bts.asB t) ∧
    RowKit.Hid (wr.heap[M]? = some (.cells (rcells (vs.map Sc.clip, 0#64)) 39 (0, 0))) ∧ RowKit.Hid (Only (· = M) w3 wr) ∧ RowKit.Hid (Bts.manyP Bts.numP j l = .inl (vs, t))) (fun _ i _ => 15 - (intOf i).toNat)
  case atStart => exact ⟨0, [], l, a2, c2, rfl, hc2, hl8, rfl, Nat.zero_le _, rfl, hs3, Lib.hid hh3, Lib.hid (Only.refl _ _), Lib.hid rfl⟩
  case round =>
    clear hs3 hh3
    obtain ⟨j, vs, t, a4, c4, rfl, htc, ht8, rfl, hj, hvl, hs, Hh, Ho, Hmany⟩ := hrel
    obtain ⟨wo, hwo⟩ : ∃ z, z = wr := ⟨_, rfl⟩
    subst hwo
    have hsz : M + 1 ≤ wo.heap.size := by have := Ho.out.size; omega
    have hbo : Below B w wo := Hbw3.out.trans (Ho.out.below (by omega) fun q hq => by omega)
    have HhB := Lib.hid (show wo.heap[B]? = some (.cells rzero 39 (0, 0)) by rw [Ho.out.block B (by omega) (by omega)]; exact HhB3.out)
    by_cases hlt : j < 15
    · have hji : (j : Int) < 15 := by omega
      have hj0 : (0 : Int) ≤ (j : Int) := by omega
      obtain ⟨x, m, f, hnf⟩ : ∃ n m f, Bts.numF t = (n, m, f) := ⟨_, _, _, rfl⟩
      have Hnf := Lib.hid hnf
      clear hnf
      go_wp2_with fail
      refine (ref_ReadNum a4 t.length c4 t _ ⟨by rw [Bts.asB_len], hs.any (by decide)⟩ htc (by omega)).mono ?_
      rw [Hnf.out]
      rintro e w5 ⟨rfl, rfl⟩
      dsimp only
      by_cases hf : ¬ f = 0
      · have hd := Sc.d1 Hmany.out hlt (Bts.numF_bad Hnf.out hf)
        have Hd := Lib.hid (show R = (Sc.zeroC, [], f) by rw [HR.out, ← Hll.out]; exact hd)
        have hf' : (f != 0) = true := by simpa using hf
        clear hd hf
        go_wp2_with (first | (refine wpList_storeRow rfl _ _ _ rfl B rfl rzero rzero rfl _ HhB.out (rconf_size _) rfl (rconf_one _) ?_))
        exact Hbad.out _ _ f (setRow_at HhB.out) ((hbo).trans (setRow_below _ (by omega) (Nat.le_refl _))) Hd.out rfl rfl rfl
      obtain rfl : f = 0 := Decidable.not_not.1 hf
      obtain ⟨hm, hp⟩ := Bts.numF_ok Hnf.out
      clear hf
      have hmk := Bts.manyP_ok Hmany.out hp
      have Hmk := Lib.hid hmk
      obtain ⟨a5, hcut5, hs5, hn5⟩ := cutS rfl hs m hm htc
      have hcell : wo.cell? ⟨M, j, none⟩ = some (.int .i64 (Sc.cf (vs.map Sc.clip, 0#64) j)) := by simp [World.cell?, Hh.out, rcells_num _ _ hlt]
      have hfro : wo.frozen? ⟨M, j, none⟩ = false := by simp [World.frozen?, Hh.out]
      have Hs5 := Lib.hid hs5
      have Hn5 := Lib.hid hn5
      have hmi : (m : Int) ≤ (t.length : Int) := by omega
      have hrel2 : ∀ y : Int, y = Sc.clip x → RowKit.Hid ((wo.setCell ⟨M, j, none⟩ (.int .i64 y)).heap[M]? = some (.cells (rcells ((vs ++ [x]).map Sc.clip, 0#64)) 39 (0, 0))) ∧ Only (· = M) wo (wo.setCell ⟨M, j, none⟩ (.int .i64 y)) := by
        intro y hy
        refine ⟨Lib.hid ?_, Only.setCell (S := (· = M)) (Only.refl _ _) (p := ⟨M, j, none⟩) (.inl rfl) _⟩
        have hM9 := heap_set Hh.out j (.int .i64 y)
        have hset := rconf_set (vs.map Sc.clip) 0#64 y (by rw [List.length_map]; omega)
        rw [List.length_map, hvl] at hset
        rw [hset] at hM9
        rw [List.map_append, List.map_singleton, ← hy]; exact hM9
      have Hrel2 := Lib.hid hrel2
      clear hmk hp hs hs5 hn5 hrel2
      by_cases hx : 1099511627776 < x.toNat
      · have hx' : 1099511627776 < bv x := by unfold bv; omega
        have Hy := Lib.hid (show (1099511627776 : Int) = Sc.clip x by unfold Sc.clip; rw [if_pos hx])
        clear hx
        go_wp2_with fail
        obtain ⟨HM9, h89⟩ := Hrel2.out 1099511627776 Hy.out
        have H89 := Lib.hid h89
        clear h89
        go_roundw
        case rel =>
          exact ⟨j + 1, vs ++ [x], t.drop m, a5, c4 - m, by rw [Hn5.out], by rw [← Hn5.out]; omega, by rw [← Hn5.out]; omega, by go_num, by omega, by simp [hvl], Hs5.out.only (by decide) H89.out fun k hk => by omega, HM9, Lib.hid (Ho.out.trans H89.out fun _ _ h => h), Hmk⟩
        case measure => simp [intOf]; omega
      · have hx' : ¬ (1099511627776 < bv x) := by unfold bv; omega
        obtain ⟨y, hy⟩ : ∃ y, y = (x.toNat : Int) := ⟨_, rfl⟩
        have hyx : x.toInt = y := by rw [hy, BitVec.toInt_eq_toNat_cond, if_pos (by omega)]
        have Hy := Lib.hid (show y = Sc.clip x by unfold Sc.clip; rw [if_neg hx, hy])
        clear hx hy
        go_wp2_with fail
        obtain ⟨HM9, h89⟩ := Hrel2.out y Hy.out
        have H89 := Lib.hid h89
        clear h89
        go_roundw
        case rel =>
          exact ⟨j + 1, vs ++ [x], t.drop m, a5, c4 - m, by rw [Hn5.out], by rw [← Hn5.out]; omega, by rw [← Hn5.out]; omega, by go_num, by omega, by simp [hvl], Hs5.out.only (by decide) H89.out fun k hk => by omega, HM9, Lib.hid (Ho.out.trans H89.out fun _ _ h => h), Hmk⟩
        case measure => simp [intOf]; omega
    · have hji : ¬ ((j : Int) < 15) := by omega
      have hj9 : j = 15 := by omega
      subst hj9
      clear hlt hj
      go_upto_region 14 with fail
      clear hji
      by_cases ht64 : t.length < 64
      · have hd := Sc.d2 Hmany.out ht64
        have Hd := Lib.hid (show R = (Sc.zeroC, [], 10) by rw [HR.out, ← Hll.out]; exact hd)
        have Ht := Lib.hid ht64
        clear hd ht64
        go_wp2_with fail
        refine (ref_Get a4 t.length c4 t 64 _ ⟨by rw [Bts.asB_len], hs.any (by decide)⟩ htc (by omega) (by decide)).mono ?_
        rintro e w5 ⟨rfl, rfl⟩
        rw [if_pos (show t.length < Bts.clamp 64 from Ht.out)]
        go_wp2_with (first | (refine wpList_storeRow rfl _ _ _ rfl B rfl rzero rzero rfl _ HhB.out (rconf_size _) rfl (rconf_one _) ?_))
        exact Hbad.out _ _ 10 (setRow_at HhB.out) ((hbo).trans (setRow_below _ (by omega) (Nat.le_refl _))) Hd.out rfl rfl rfl
      have Ht := Lib.hid ht64
      have HsT := Lib.hid (hs.any (by decide))
      have hconf := Sc.conf_all Hmany.out ht64
      obtain ⟨sd, hsd⟩ : ∃ z, z = Bts.val (t.take 64) := ⟨_, rfl⟩
      rw [← hsd] at hconf
      have Hsd := Lib.hid hsd
      obtain ⟨cc, hcc⟩ : ∃ z, z = Sc.ofRaw (vs, sd) := ⟨_, rfl⟩
      rw [← hcc] at hconf
      obtain ⟨a5, hcut0, hs5, hn5⟩ := cutS rfl hs 64 (by omega) htc
      obtain ⟨t1, ht1⟩ : ∃ z, z = t.drop 64 := ⟨_, rfl⟩
      rw [← ht1] at hs5 hn5 hconf
      rw [hn5] at hcut0
      obtain ⟨c5, hc5⟩ : ∃ z, z = c4 - 64 := ⟨_, rfl⟩
      rw [← hc5] at hcut0
      have hcut5 : ∀ W : World, (Instr.slice 30 (.slice a4 t.length c4) (some (.int .i64 64)) none none).run Tryd.prog W = .ok (.slice a5 t1.length c5) W := hcut0
      clear hcut0
      have ht1c : t1.length ≤ c5 := by omega
      have ht18 : t1.length ≤ 80000 := by omega
      have hmi : (64 : Int) ≤ (t.length : Int) := by omega
      have m7 : wo.cell? ⟨M, 15, none⟩ = some (.int .u64 0) := by simp [World.cell?, Hh.out, rcells, bv]
      have mf : wo.frozen? ⟨M, 15, none⟩ = false := by simp [World.frozen?, Hh.out]
      obtain ⟨w7, hw7⟩ : ∃ z, z = wo.setCell ⟨M, 15, none⟩ (.int .u64 (bv sd)) := ⟨_, rfl⟩
      have h78 : Only (· = M) wo w7 := by rw [hw7]; exact Only.setCell (S := (· = M)) (Only.refl _ _) (p := ⟨M, 15, none⟩) (.inl rfl) _
      have hM7 := heap_set Hh.out 15 (.int .u64 (bv sd))
      rw [rconf_seed, ← hw7, show ((vs.map Sc.clip, sd) : Sc.Conf) = cc from hcc.symm] at hM7
      have hs7 := hs5.only (by decide) h78 fun k hk => by omega
      have hex7 := hw7.symm
      have HM7 := Lib.hid hM7
      have Ho7 := Lib.hid (Ho.out.trans h78 fun _ _ h => h)
      have hsz7 : M + 1 ≤ w7.heap.size := by have := h78.size; omega
      have hbo7 : Below B w w7 := Hbw3.out.trans (Ho7.out.below (by omega) fun q hq => by omega)
      have HhB7 := Lib.hid (show w7.heap[B]? = some (.cells rzero 39 (0, 0)) by rw [Ho7.out.block B (by omega) (by omega)]; exact HhB3.out)
      have Hconf := Lib.hid hconf
      have Hcc := Lib.hid hcc
      have hsd' : bv (Bts.val (t.take 64)) = bv sd := by rw [hsd]
      have Hsd' := Lib.hid hsd'
      clear hconf hsd ht1 hc5 hs hs5 hn5 hw7 h78 hM7 Hh hcc hsd' ht64
      go_wp2_with fail
      refine (ref_Get a4 t.length c4 t 64 _ ⟨by rw [Bts.asB_len], HsT.out⟩ htc (by omega) (by decide)).mono ?_
      rintro e w5 ⟨rfl, rfl⟩
      rw [if_neg (show ¬ t.length < Bts.clamp 64 from Ht.out), show Bts.clamp 64 = 64 from rfl, Hsd'.out]
      go_upto_region 19 with fail
      clear hex7 m7 mf hcut5 hmi
      go_wp2_with (refine wpList_loadRow rfl _ _ rfl M rfl (rcells cc) _ (0, 0) _ HM7.out Tryd.underlying39 rfl size_rconf ?_)
      refine (ref14_Check cc w7).mono ?_
      rintro e w8 ⟨rfl, hb8⟩
      have hs8 : Sl EU8 (fun k => B + 1 ≤ k ∧ k < M) w8 a5 (Bts.asB t1) := hs7.below (by decide) hb8
      have HM8 := Lib.hid (show w8.heap[M]? = some (.cells (rcells cc) 39 (0, 0)) by rw [hb8.block M (by omega)]; exact HM7.out)
      have HhB8 := Lib.hid (show w8.heap[B]? = some (.cells rzero 39 (0, 0)) by rw [hb8.block B (by omega)]; exact HhB7.out)
      have hbo8 : Below B w w8 := hbo7.trans (hb8.mono (by omega))
      have hsz8 : M + 1 ≤ w8.heap.size := by have := hb8.size; omega
      clear hb8 hs7 hbo7 HM7 HhB7 Ho7
      by_cases hk : Sc.check cc = 0
      case neg =>
        have hd := Sc.d3 (show Sc.confP l = .inr (Sc.check cc) by rw [Hconf.out, if_neg hk])
        obtain ⟨z, hz⟩ : ∃ z, z = Sc.check cc := ⟨_, rfl⟩
        rw [← hz] at hd hk ⊢
        have Hd := Lib.hid (show R = (Sc.zeroC, [], z) by rw [HR.out, ← Hll.out]; exact hd)
        have hz0 : (z != 0) = true := by simpa using hk
        clear hd hz hk
        go_wp2_with (first | (refine wpList_storeRow rfl _ _ _ rfl B rfl rzero rzero rfl _ HhB8.out (rconf_size _) rfl (rconf_one _) ?_))
        exact Hbad.out _ _ z (setRow_at HhB8.out) ((hbo8).trans (setRow_below _ (by omega) (Nat.le_refl _))) Hd.out rfl rfl rfl
      have hconf := Hconf.out
      rw [if_pos hk] at hconf
      rw [hk]
      have Hcf := Lib.hid hconf
      clear hconf Hconf hk
      obtain ⟨x, m, f, hnf⟩ : ∃ n m f, Bts.numF t1 = (n, m, f) := ⟨_, _, _, rfl⟩
      have Hnf := Lib.hid hnf
      clear hnf
      go_wp2_with fail
      refine (ref_ReadNum a5 t1.length c5 t1 _ ⟨by rw [Bts.asB_len], hs8.any (by decide)⟩ ht1c (by omega)).mono ?_
      rw [Hnf.out]
      rintro e w5 ⟨rfl, rfl⟩
      dsimp only
      by_cases hf : ¬ f = 0
      · have hd := Sc.d4 Hcf.out (Bts.numF_bad Hnf.out hf)
        have Hd := Lib.hid (show R = (Sc.zeroC, [], f) by rw [HR.out, ← Hll.out]; exact hd)
        have hf' : (f != 0) = true := by simpa using hf
        clear hd hf
        go_wp2_with (first | (refine wpList_storeRow rfl _ _ _ rfl B rfl rzero rzero rfl _ HhB8.out (rconf_size _) rfl (rconf_one _) ?_))
        exact Hbad.out _ _ f (setRow_at HhB8.out) ((hbo8).trans (setRow_below _ (by omega) (Nat.le_refl _))) Hd.out rfl rfl rfl
      obtain rfl : f = 0 := Decidable.not_not.1 hf
      obtain ⟨hm, hp⟩ := Bts.numF_ok Hnf.out
      clear hf
      by_cases hx : 20000 < x.toNat
      · have hd := Sc.d5 Hcf.out hp hx
        have Hd := Lib.hid (show R = (Sc.zeroC, [], 4) by rw [HR.out, ← Hll.out]; exact hd)
        have hx' : 20000 < bv x := by unfold bv; omega
        clear hd hp hx
        go_wp2_with (first | (refine wpList_storeRow rfl _ _ _ rfl B rfl rzero rzero rfl _ HhB8.out (rconf_size _) rfl (rconf_one _) ?_))
        exact Hbad.out _ _ 4 (setRow_at HhB8.out) ((hbo8).trans (setRow_below _ (by omega) (Nat.le_refl _))) Hd.out rfl rfl rfl
      have hx' : ¬ (20000 < bv x) := by unfold bv; omega
      obtain ⟨N, hN⟩ : ∃ N, N = x.toNat := ⟨_, rfl⟩
      have hN2 : N ≤ 20000 := by omega
      have Hbn := Lib.hid (show bv x = (N : Int) by unfold bv; rw [hN])
      obtain ⟨a6, hcut6, hs6, hn6⟩ := cutS rfl hs8 m hm ht1c
      obtain ⟨u0, hu0⟩ : ∃ u, u = t1.drop m := ⟨_, rfl⟩
      rw [← hu0] at hs6 hn6 hp
      rw [hn6] at hcut6
      obtain ⟨c6, hc6⟩ : ∃ c, c = c5 - m := ⟨_, rfl⟩
      rw [← hc6] at hcut6
      have huc : u0.length ≤ c6 := by omega
      have hu8 : u0.length ≤ 80000 := by omega
      have hmi : (m : Int) ≤ (t1.length : Int) := by omega
      have Hp := Lib.hid hp
      have HN := Lib.hid hN
      obtain ⟨w10, hw10⟩ : ∃ z, z = w8.alloc (.cells #[] 72) := ⟨_, rfl⟩
      have hb10 : Below w8.heap.size w8 w10 := by subst hw10; exact (Below.refl _ _).alloc (Nat.le_refl _) _
      obtain ⟨G, hG⟩ : ∃ G, G = w8.heap.size := ⟨_, rfl⟩
      have hown0 : Own (EIn G EStp) 72 G w10 (.slice (some ⟨G, 0, none⟩) 0 0) [] := by subst hw10; subst hG; exact own_empty (EIn w8.heap.size EStp) 72 w8 (show 0 < EStp.sz by decide)
      have hn10 : w10.heap.size = G + 1 := by subst hw10; subst hG; simp
      rw [← hG] at hb10
      have hGM : M + 1 ≤ G := by omega
      have hs10 := hs6.below (by decide) (by rw [← hG]; exact hb10)
      have HM10 := Lib.hid (show w10.heap[M]? = some (.cells (rcells cc) 39 (0, 0)) by rw [hb10.block M (by omega)]; exact HM8.out)
      have HhB10 := Lib.hid (show w10.heap[B]? = some (.cells rzero 39 (0, 0)) by rw [hb10.block B (by omega)]; exact HhB8.out)
      have Hbo10 := Lib.hid (hbo8.trans (hb10.mono (by omega)))
      have Hb10 := Lib.hid hb10
      have hex10 := hw10.symm
      have HG := Lib.hid hG
      clear hN hu0 hc6 hs8 hs6 hn6 hp hx hm hw10 hb10 hG hsz8
      go_upto_region 29 with fail
      rw [← HG.out]
      clear hex10 hcut6 hmi HM8 HhB8 hbo8
      go_wp2_with fail
      go_loopw [5, 16, 17] (fun t5 t16 i wr => ∃ (k : Nat) (ss : List Sc.Step) (u : Bts.Bits) (a7 : Option Addr) (c7 : Nat) (aL : Option Addr) (cL : Nat), t5 = .slice a7 u.length c7 ∧ u.length ≤ c7 ∧ u.length ≤ 80000 ∧ t16 = .slice aL k cL ∧ i = .int .u64 (bv (BitVec.ofNat 64 k)) ∧ k ≤ N ∧ ss.length = k ∧ Sl EU8 (fun k => B + 1 ≤ k ∧ k < M) wr a7 (Bts.asB u) ∧
        Own (EIn G EStp) 72 G wr (.slice aL k cL) ss ∧ RowKit.Hid (Only (fun q => G ≤ q) w10 wr) ∧ RowKit.Hid (Bts.manyP Sc.stepP k u0 = .inl (ss, u))) (fun _ _ i _ => N - (intOf i).toNat)
      case atStart => exact ⟨0, [], u0, a6, c6, some ⟨G, 0, none⟩, 0, rfl, huc, hu8, rfl, rfl, Nat.zero_le _, rfl, hs10, hown0, Lib.hid (Only.refl _ _), Lib.hid rfl⟩
      case round =>
        clear hs10 hown0 huc hu8
        obtain ⟨k, ss, u, a7, c7, aL, cL, rfl, huc, hu8, rfl, rfl, hk, hsl, hs, hown, Ho2, Hmu⟩ := hrel
        obtain ⟨wq, hwq⟩ : ∃ z, z = wr := ⟨_, rfl⟩
        subst hwq
        have hszq : G + 1 ≤ wq.heap.size := by have := Ho2.out.size; omega
        have hbq : Below B w wq := Hbo10.out.trans (Ho2.out.below (by omega) fun q hq => by omega)
        have HhBq := Lib.hid (show wq.heap[B]? = some (.cells rzero 39 (0, 0)) by rw [Ho2.out.block B (by omega) (by omega)]; exact HhB10.out)
        have Hbk := Lib.hid (show bv (BitVec.ofNat 64 k) = (k : Int) by unfold bv; rw [BitVec.toNat_ofNat]; omega)
        have Hown := Lib.hid hown
        have Hsl := Lib.hid hsl
        have Hbq := Lib.hid hbq
        clear hown hsl hbq
        by_cases hle : k < N
        · have hle' : bv (BitVec.ofNat 64 k) < bv x := by rw [Hbk.out, Hbn.out]; omega
          have hfail : ∀ e, Sc.stepP u = .inr e → R = (Sc.zeroC, [], e) := fun e he => by
            rw [HR.out, ← Hll.out]
            exact Sc.d6 Hcf.out Hp.out (by rw [← HN.out]; exact hN2) Hmu.out (by rw [← HN.out]; exact hle) he
          have Hfail := Lib.hid hfail
          clear hfail
          obtain ⟨w11, hw11⟩ : ∃ z, z = wq.alloc (.cells (stp3 [] (.slice none 0 0)) 72) := ⟨_, rfl⟩
          obtain ⟨s1, hs1⟩ : ∃ s, s = wq.heap.size := ⟨_, rfl⟩
          have hb11 : Below s1 wq w11 := by subst hw11; subst hs1; exact (Below.refl _ _).alloc (Nat.le_refl _) _
          have hh11 : w11.heap[s1]? = some (.cells (stp3 [] (.slice none 0 0)) 72 (0, 0)) := by subst hw11; subst hs1; exact heap_alloc_new wq _
          have hn11 : w11.heap.size = s1 + 1 := by subst hw11; subst hs1; simp
          have Hex11 := Lib.hid (show wq.alloc (.cells #[.int .i64 0, .int .i64 0, .int .i64 0, .slice none 0 0] 72) = w11 from hw11.symm)
          have hs11 := hs.below (by decide) (by rw [← hs1]; exact hb11)
          have Hb11 := Lib.hid hb11
          have Hs1 := Lib.hid hs1
          have hGs1 : G + 1 ≤ s1 := by omega
          have Hh11 := Lib.hid hh11
          clear hw11 hb11 hs hs1 hh11
          go_upto_region 33 with fail
          rw [Hex11.out, ← Hs1.out]
          go_wp2_with fail
          go_loopw [5, 19] (fun t5 i wr => ∃ (j : Nat) (ys : List Int) (v : Bts.Bits) (a8 : Option Addr) (c8 : Nat), t5 = .slice a8 v.length c8 ∧ v.length ≤ c8 ∧ v.length ≤ 80000 ∧ i = .int .i64 j ∧ j ≤ 3 ∧ ys.length = j ∧ Sl EU8 (fun k => B + 1 ≤ k ∧ k < M) wr a8 (Bts.asB v) ∧ RowKit.Hid (∀ y ∈ ys, Bts.i64 y) ∧
            RowKit.Hid (wr.heap[s1]? = some (.cells (stp3 ys (.slice none 0 0)) 72 (0, 0))) ∧ RowKit.Hid (Only (· = s1) w11 wr) ∧ RowKit.Hid (Bts.manyP Bts.intP j u = .inl (ys, v))) (fun _ i _ => 3 - (intOf i).toNat)
          case atStart => exact ⟨0, [], u, a7, c7, rfl, huc, hu8, rfl, Nat.zero_le _, rfl, hs11, Lib.hid (by simp), Hh11, Lib.hid (Only.refl _ _), Lib.hid rfl⟩
          case round =>
            clear hs11
            obtain ⟨j, ys, v, a8, c8, rfl, hvc, hv8, rfl, hj, hyl, hs, Hyr, Hh3, Ho3, Hm3⟩ := hrel
            obtain ⟨wp, hwp⟩ : ∃ z, z = wr := ⟨_, rfl⟩
            subst hwp
            have hszp : s1 + 1 ≤ wp.heap.size := by have := Ho3.out.size; omega
            have ho3q : Only (fun q => G ≤ q) w10 wp := (Ho2.out.trans (Below.only (by rw [← Hs1.out]; exact Hb11.out)) fun _ _ h => h).trans (Ho3.out.mono (T := fun q => G ≤ q) fun q h => by omega) fun _ _ h => h
            have hbp : Below B w wp := Hbo10.out.trans (ho3q.below (by omega) fun q hq => by omega)
            have HhBp := Lib.hid (show wp.heap[B]? = some (.cells rzero 39 (0, 0)) by rw [ho3q.block B (by omega) (by omega)]; exact HhB10.out)
            have Ho3q := Lib.hid ho3q
            have Hbp := Lib.hid hbp
            clear ho3q hbp
            obtain ⟨x1, m1, f1, hnf1⟩ : ∃ n m f, Bts.numF v = (n, m, f) := ⟨_, _, _, rfl⟩
            have Hnf1 := Lib.hid hnf1
            clear hnf1
            by_cases hj3 : j < 3
            · have hji : (j : Int) < 3 := by omega
              have hj0 : (0 : Int) ≤ (j : Int) := by omega
              go_wp2_with fail
              refine (ref_ReadInt a8 v.length c8 v _ ⟨by rw [Bts.asB_len], hs.any (by decide)⟩ hvc (by omega)).mono ?_
              rw [Hnf1.out]
              rintro e w5 ⟨rfl, rfl⟩
              dsimp only
              by_cases hf : ¬ f1 = 0
              · have Hd := Lib.hid (Hfail.out f1 (Sc.s1 Hm3.out hj3 (Bts.numF_int_bad Hnf1.out hf)))
                have hf' : (f1 != 0) = true := by simpa using hf
                clear hf
                go_wp2_with (first | (refine wpList_storeRow rfl _ _ _ rfl B rfl rzero rzero rfl _ HhBp.out (rconf_size _) rfl (rconf_one _) ?_))
                exact Hbad.out _ _ f1 (setRow_at HhBp.out) ((Hbp.out).trans (setRow_below _ (by omega) (Nat.le_refl _))) Hd.out rfl rfl rfl
              obtain rfl : f1 = 0 := Decidable.not_not.1 hf
              obtain ⟨hm1, _⟩ := Bts.numF_ok Hnf1.out
              have hip := Bts.numF_int Hnf1.out
              obtain ⟨y, hy⟩ : ∃ y, y = Bts.unzig x1 := ⟨_, rfl⟩
              have hyr : Bts.i64 y := by rw [hy]; exact Bts.unzig_range x1
              rw [← hy] at hip ⊢
              have Hmk := Lib.hid (Bts.manyP_ok Hm3.out hip)
              have Hyr' := Lib.hid (show ∀ z ∈ ys ++ [y], Bts.i64 z from fun z hz => by
                rcases List.mem_append.1 hz with h | h
                · exact Hyr.out z h
                · rw [List.mem_singleton.1 h]; exact hyr)
              obtain ⟨a9, hcut9, hs9, hn9⟩ := cutS rfl hs m1 hm1 hvc
              have hcell : wp.cell? ⟨s1, j, none⟩ = some (.int .i64 (Sc.nth ys j)) := by simp [World.cell?, Hh3.out, stp3_num _ _ _ hj3]
              have hfro : wp.frozen? ⟨s1, j, none⟩ = false := by simp [World.frozen?, Hh3.out]
              have hrel2 : RowKit.Hid ((wp.setCell ⟨s1, j, none⟩ (.int .i64 y)).heap[s1]? = some (.cells (stp3 (ys ++ [y]) (.slice none 0 0)) 72 (0, 0))) ∧ Only (· = s1) wp (wp.setCell ⟨s1, j, none⟩ (.int .i64 y)) := by
                refine ⟨Lib.hid ?_, Only.setCell (S := (· = s1)) (Only.refl _ _) (p := ⟨s1, j, none⟩) (.inl rfl) _⟩
                have hM9 := heap_set Hh3.out j (.int .i64 y)
                have hset := stp3_set ys y (.slice none 0 0) (by omega)
                rw [hyl] at hset
                rw [hset] at hM9
                exact hM9
              have Hrel2 := Lib.hid hrel2
              have Hs9 := Lib.hid hs9
              have Hn9 := Lib.hid hn9
              have hmi : (m1 : Int) ≤ (v.length : Int) := by omega
              have hj012 : j = 0 ∨ j = 1 ∨ j = 2 := by omega
              clear hip hy hyr hs hs9 hn9 hrel2 hf hm1
              rcases hj012 with rfl | rfl | rfl
              · go_wp2_with fail
                obtain ⟨HM9, h89⟩ := Hrel2.out
                have H89 := Lib.hid h89
                clear h89
                go_roundw
                case rel =>
                  exact ⟨1, ys ++ [y], v.drop m1, a9, c8 - m1, by rw [Hn9.out], by rw [← Hn9.out]; omega, by rw [← Hn9.out]; omega, by go_num, by omega, by simp [hyl], Hs9.out.only (by decide) H89.out (fun k hk => by omega), Hyr', HM9, Lib.hid (Ho3.out.trans H89.out fun _ _ h => h), Hmk⟩
                case measure => simp [intOf]
              · go_wp2_with fail
                obtain ⟨HM9, h89⟩ := Hrel2.out
                have H89 := Lib.hid h89
                clear h89
                go_roundw
                case rel =>
                  exact ⟨2, ys ++ [y], v.drop m1, a9, c8 - m1, by rw [Hn9.out], by rw [← Hn9.out]; omega, by rw [← Hn9.out]; omega, by go_num, by omega, by simp [hyl], Hs9.out.only (by decide) H89.out (fun k hk => by omega), Hyr', HM9, Lib.hid (Ho3.out.trans H89.out fun _ _ h => h), Hmk⟩
                case measure => simp [intOf]
              · go_wp2_with fail
                obtain ⟨HM9, h89⟩ := Hrel2.out
                have H89 := Lib.hid h89
                clear h89
                go_roundw
                case rel =>
                  exact ⟨3, ys ++ [y], v.drop m1, a9, c8 - m1, by rw [Hn9.out], by rw [← Hn9.out]; omega, by rw [← Hn9.out]; omega, by go_num, by omega, by simp [hyl], Hs9.out.only (by decide) H89.out (fun k hk => by omega), Hyr', HM9, Lib.hid (Ho3.out.trans H89.out fun _ _ h => h), Hmk⟩
                case measure => simp [intOf]
            · have hji : ¬ ((j : Int) < 3) := by omega
              have hj3' : j = 3 := by omega
              have Hm3 := Lib.hid (show Bts.manyP Bts.intP 3 u = .inl (ys, v) by rw [← hj3']; exact Hm3.out)
              have hys3 : ys.length = 3 := by omega
              clear hj3 hj hyl hj3'
              go_upto_region 46 with fail
              clear hji
              go_wp2_with fail
              refine (ref_ReadNum a8 v.length c8 v _ ⟨by rw [Bts.asB_len], hs.any (by decide)⟩ hvc (by omega)).mono ?_
              rw [Hnf1.out]
              rintro e w5 ⟨rfl, rfl⟩
              dsimp only
              by_cases hf : ¬ f1 = 0
              · have Hd := Lib.hid (Hfail.out f1 (Sc.s2 Hm3.out (Bts.numF_bad Hnf1.out hf)))
                have hf' : (f1 != 0) = true := by simpa using hf
                clear hf
                go_wp2_with (first | (refine wpList_storeRow rfl _ _ _ rfl B rfl rzero rzero rfl _ HhBp.out (rconf_size _) rfl (rconf_one _) ?_))
                exact Hbad.out _ _ f1 (setRow_at HhBp.out) ((Hbp.out).trans (setRow_below _ (by omega) (Nat.le_refl _))) Hd.out rfl rfl rfl
              obtain rfl : f1 = 0 := Decidable.not_not.1 hf
              obtain ⟨hm1, hp1⟩ := Bts.numF_ok Hnf1.out
              clear hf
              obtain ⟨K, hK⟩ : ∃ K, K = x1.toNat := ⟨_, rfl⟩
              have hK64 : K < 18446744073709551616 := by rw [hK]; exact x1.isLt
              have Hbn1 := Lib.hid (show bv x1 = (K : Int) by unfold bv; rw [hK])
              obtain ⟨a9, hcut9, hs9, hn9⟩ := cutS rfl hs m1 hm1 hvc
              obtain ⟨u1, hu1⟩ : ∃ u, u = v.drop m1 := ⟨_, rfl⟩
              rw [← hu1] at hs9 hn9 hp1
              rw [hn9] at hcut9
              obtain ⟨c9, hc9⟩ : ∃ c, c = c8 - m1 := ⟨_, rfl⟩
              rw [← hc9] at hcut9
              have huc1 : u1.length ≤ c9 := by omega
              have hu81 : u1.length ≤ 80000 := by omega
              have hmi : (m1 : Int) ≤ (v.length : Int) := by omega
              have Hp1 := Lib.hid hp1
              have HK := Lib.hid hK
              clear hK hu1 hc9 hs hn9 hp1 hm1
              go_wp2_with fail
              go_loopw [5, 26] (fun t5 i wr => ∃ (q : Nat) (xs : List Int) (r : Bts.Bits) (a12 : Option Addr) (c12 : Nat) (aK : Option Addr) (cK : Nat), t5 = .slice a12 r.length c12 ∧ r.length ≤ c12 ∧ r.length ≤ 80000 ∧ i = .int .u64 (bv (BitVec.ofNat 64 q)) ∧ q ≤ K ∧ q ≤ 80000 ∧ xs.length = q ∧ Sl EU8 (fun k => B + 1 ≤ k ∧ k < M) wr a12 (Bts.asB r) ∧
                Own EInt 3 wp.heap.size wr (.slice aK q cK) xs ∧ RowKit.Hid (wr.heap[s1]? = some (.cells (stp3 ys (.slice aK q cK)) 72 (0, 0))) ∧ RowKit.Hid (Only (· = s1) wp wr) ∧ RowKit.Hid (Bts.manyP Bts.intP q u1 = .inl (xs, r))) (fun _ i _ => K - (intOf i).toNat)
              case atStart => exact ⟨0, [], u1, a9, c9, none, 0, rfl, huc1, hu81, rfl, Nat.zero_le _, Nat.zero_le _, rfl, hs9, Own.nil _ _ _ _, Hh3, Lib.hid (Only.refl _ _), Lib.hid rfl⟩
              case round =>
                clear hs9 huc1 hcut9 hmi
                obtain ⟨q, xs, r, a12, c12, aK, cK, rfl, hrc, hr8, rfl, hq, hq8, hxl, hs, hok, Hh4, Ho4, Hmq⟩ := hrel
                obtain ⟨wz, hwz⟩ : ∃ z, z = wr := ⟨_, rfl⟩
                subst hwz
                have hszz : wp.heap.size ≤ wz.heap.size := Ho4.out.size
                have ho4q : Only (fun q => G ≤ q) w10 wz := Ho3q.out.trans (Ho4.out.mono (T := fun q => G ≤ q) fun q h => by omega) fun _ _ h => h
                have hbz : Below B w wz := Hbo10.out.trans (ho4q.below (by omega) fun q hq => by omega)
                have HhBz := Lib.hid (show wz.heap[B]? = some (.cells rzero 39 (0, 0)) by rw [ho4q.block B (by omega) (by omega)]; exact HhB10.out)
                have Ho4q := Lib.hid ho4q
                have Hbz := Lib.hid hbz
                have Hbq1 := Lib.hid (show bv (BitVec.ofNat 64 q) = (q : Int) by unfold bv; rw [BitVec.toNat_ofNat]; omega)
                have Hok := Lib.hid hok
                have Hxl := Lib.hid hxl
                have Hq := Lib.hid hq
                clear ho4q hbz hok hxl hq
                by_cases hqK : q < K
                · have hqK' : bv (BitVec.ofNat 64 q) < bv x1 := by rw [Hbq1.out, Hbn1.out]; omega
                  obtain ⟨x2, m2, f2, hnf2⟩ : ∃ n m f, Bts.numF r = (n, m, f) := ⟨_, _, _, rfl⟩
                  have Hnf2 := Lib.hid hnf2
                  clear hnf2
                  go_wp2_with fail
                  refine (ref_ReadInt a12 r.length c12 r _ ⟨by rw [Bts.asB_len], hs.any (by decide)⟩ hrc (by omega)).mono ?_
                  rw [Hnf2.out]
                  rintro e w5 ⟨rfl, rfl⟩
                  dsimp only
                  by_cases hf : ¬ f2 = 0
                  · have Hd := Lib.hid (Hfail.out f2 (Sc.s3 Hm3.out Hp1.out Hmq.out (by rw [← HK.out]; exact hqK) (Bts.numF_int_bad Hnf2.out hf)))
                    have hf' : (f2 != 0) = true := by simpa using hf
                    clear hf
                    go_wp2_with (first | (refine wpList_storeRow rfl _ _ _ rfl B rfl rzero rzero rfl _ HhBz.out (rconf_size _) rfl (rconf_one _) ?_))
                    exact Hbad.out _ _ f2 (setRow_at HhBz.out) ((Hbz.out).trans (setRow_below _ (by omega) (Nat.le_refl _))) Hd.out rfl rfl rfl
                  obtain rfl : f2 = 0 := Decidable.not_not.1 hf
                  obtain ⟨hm2, _⟩ := Bts.numF_ok Hnf2.out
                  have hip := Bts.numF_int Hnf2.out
                  obtain ⟨y, hy⟩ : ∃ y, y = Bts.unzig x2 := ⟨_, rfl⟩
                  have hyr : Bts.i64 y := by rw [hy]; exact Bts.unzig_range x2
                  rw [← hy] at hip ⊢
                  have hmk := Bts.manyP_ok Hmq.out hip
                  have hq1 : q + 1 ≤ 80000 := Nat.le_trans (Bts.many_ints_le hmk) hu81
                  have Hmk := Lib.hid hmk
                  obtain ⟨a13, hcut13, hs13, hn13⟩ := cutS rfl hs m2 hm2 hrc
                  have Hs13 := Lib.hid hs13
                  have Hn13 := Lib.hid hn13
                  have hmi : (m2 : Int) ≤ (r.length : Int) := by omega
                  have c3 : wz.cell? ⟨s1, 3, none⟩ = some (.slice aK q cK) := by simp [World.cell?, Hh4.out, stp3]
                  have c3a : (wz.alloc (.cells #[.int .i64 y] 3)).cell? ⟨s1, 3, none⟩ = some (.slice aK q cK) := cell_thru c3 ((Below.refl _ _).alloc (Nat.le_refl _) _)
                  have hit : Own EInt 3 wp.heap.size (wz.alloc (.cells #[.int .i64 y] 3)) (.slice aK q cK) xs ∧ Sl EInt (fun b => some b ≠ (Value.slice aK q cK).ownBlock) (wz.alloc (.cells #[.int .i64 y] 3)) (some ⟨wz.heap.size, 0, none⟩) [y] :=
                    ⟨Hok.out.below ((Below.refl _ _).alloc (Nat.le_refl _) _), sl_one (heap_alloc_new wz _) ⟨rfl, hyr⟩ Hok.out.fresh⟩
                  have Hit := Lib.hid hit
                  have Hb1 := Lib.hid (show xs.length + [y].length ≤ maxLen by rw [Hxl.out]; unfold maxLen; simp; omega)
                  have Hb2 := Lib.hid (show (xs.length + [y].length) * 8 ≤ 140737488355328 by rw [Hxl.out]; simp; omega)
                  have hsp1 : s1 < wp.heap.size := by omega
                  clear hip hy hyr hmk hs hs13 hn13 hit hf hm2
                  go_wp2_with (first
                    | (refine wpList_app EInt rfl rfl (by rfl) (by rfl) ti_sints Hit.out.1 rfl Hit.out.2 Hb1.out Hb2.out (by simp; omega) ?_
                       intro v14 w14 ho14 hg14 hv14 hb14
                       obtain ⟨a14, c14, rfl, hc14, hm14, hr14, ho14'⟩ := ho14.shape (q + 1) (by simp [Hxl.out])
                       have k14 : w14.cell? ⟨s1, 3, none⟩ = some (.slice aK q cK) := (hb14.cell (p := ⟨s1, 3, none⟩) hsp1).trans c3a
                       have kf14 : w14.frozen? ⟨s1, 3, none⟩ = false := by
                         rw [hb14.frozen (p := ⟨s1, 3, none⟩) hsp1, Below.frozen (B := wz.heap.size) ((Below.refl _ _).alloc (Nat.le_refl _) _) (p := ⟨s1, 3, none⟩) (cell_lt c3)]
                         simp [World.frozen?, Hh4.out]))
                  all_goals
                    have HMf := Lib.hid (show (w14.setCell ⟨s1, 3, none⟩ (.slice a14 (q + 1) c14)).heap[s1]? = some (.cells (stp3 ys (.slice a14 (q + 1) c14)) 72 (0, 0)) by
                      have e : w14.heap[s1]? = some (.cells (stp3 ys (.slice aK q cK)) 72 (0, 0)) := by
                        rw [hb14.block s1 hsp1, Below.heap_alloc _ _ _ (cell_lt c3)]; exact Hh4.out
                      have := heap_set e 3 (.slice a14 (q + 1) c14)
                      simpa [stp3] using this)
                    have hOb : Only (fun p => wp.heap.size ≤ p ∨ p = s1) wz (w14.setCell ⟨s1, 3, none⟩ (.slice a14 (q + 1) c14)) := by
                      have h1 : Only (fun p => wp.heap.size ≤ p ∨ p = s1) wz (wz.alloc (.cells #[.int .i64 y] 3)) := Below.only ((Below.refl _ _).alloc (Nat.le_refl _) _)
                      have h2 : Only (fun p => wp.heap.size ≤ p ∨ p = s1) (wz.alloc (.cells #[.int .i64 y] 3)) w14 := ⟨hb14.os, hb14.tape, hb14.output, hb14.size, fun p hp hn => hb14.block p (by omega)⟩
                      exact (h1.trans h2 fun _ _ h => h).setCell (p := ⟨s1, 3, none⟩) (.inl (.inr rfl)) _
                    have HOb := Lib.hid hOb
                    have HoF := Lib.hid (show Own EInt 3 wp.heap.size (w14.setCell ⟨s1, 3, none⟩ (.slice a14 (q + 1) c14)) (.slice a14 (q + 1) c14) (xs ++ [y]) from
                      ho14'.onlyI (S := (· = s1)) (Only.setCell (S := (· = s1)) (Only.refl _ _) (p := ⟨s1, 3, none⟩) (.inl rfl) _) (fun j hj => by omega))
                    have Hnext := Lib.hid (show bv (BitVec.ofNat 64 q + 1#64) = bv (BitVec.ofNat 64 (q + 1)) by rw [BitVec.ofNat_add])
                    have Hbq' := Lib.hid (show bv (BitVec.ofNat 64 (q + 1)) = ((q + 1 : Nat) : Int) by unfold bv; rw [BitVec.toNat_ofNat]; omega)
                    clear hOb ho14 hg14 hv14 hr14 ho14' hb14
                    go_roundw
                    case rel =>
                      refine ⟨q + 1, xs ++ [y], r.drop m2, a13, c12 - m2, a14, c14, by rw [Hn13.out], by rw [← Hn13.out]; omega, by rw [← Hn13.out]; omega, by rw [Hnext.out], by omega, hq1, by simp [Hxl.out], Hs13.out.only (by decide) HOb.out (fun p hp => by omega), HoF.out, HMf, Lib.hid ?_, Hmk⟩
                      exact Ho4.out.trans HOb.out fun p hp h => by rcases h with h | h; omega; exact h
                    case measure =>
                      rw [Hnext.out]
                      show K - (bv (BitVec.ofNat 64 (q + 1))).toNat < K - (bv (BitVec.ofNat 64 q)).toNat
                      rw [Hbq'.out, Hbq1.out]
                      omega
                · have hqK' : ¬ (bv (BitVec.ofNat 64 q) < bv x1) := by rw [Hbq1.out, Hbn1.out]; omega
                  have hqe : q = K := by have := Hq.out; omega
                  have hstep := Sc.s4 Hm3.out Hp1.out (by rw [← HK.out, ← hqe]; exact Hmq.out)
                  have Hmu' := Lib.hid (Bts.manyP_ok Hmu.out hstep)
                  obtain ⟨_, _, ec, hqc, hcm3, _, hok⟩ := Hok.out.shape q Hxl.out.symm
                  injection ec with ec1 ec2 ec3
                  subst ec1
                  subst ec3
                  have hqx : q = xs.length := Hxl.out.symm
                  have hoo : Only (fun _ => False) wq wz := ((Below.only (by rw [← Hs1.out]; exact Hb11.out) : Only (fun _ => False) wq w11).trans Ho3.out fun p hp h => by have := Hs1.out; omega).trans Ho4.out fun p hp h => by have := Hs1.out; omega
                  have hsz1 : wq.heap.size ≤ wp.heap.size := by have := Hs1.out; omega
                  have hy0 : ∀ i, i < 3 → Bts.i64 (Sc.nth ys i) := fun i hi => by
                    refine Hyr.out _ ?_
                    unfold Sc.nth
                    rw [List.getD_eq_getElem?_getD, List.getElem?_eq_getElem (by omega)]
                    exact List.getElem_mem _
                  have hit := stp_item (tt := 72) (aL := aL) (k := k) (cL := cL) (ts := ss) (aK := aK) (cK := cK) (xs := xs) Hown.out hoo (fun _ h => absurd h id) (by omega) hsz1 (hy0 0 (by decide)) (hy0 1 (by decide)) (hy0 2 (by decide)) (by rw [← hqx]; exact hok) (by omega) hcm3 72
                  rw [← hqx] at hit
                  have Hit := Lib.hid hit
                  have Hb1 := Lib.hid (show ss.length + [((Sc.nth ys 0, Sc.nth ys 1, Sc.nth ys 2, xs) : Sc.Step)].length ≤ maxLen by rw [Hsl.out]; unfold maxLen; simp; omega)
                  have Hb2 := Lib.hid (show (ss.length + [((Sc.nth ys 0, Sc.nth ys 1, Sc.nth ys 2, xs) : Sc.Step)].length) * 48 ≤ 140737488355328 by rw [Hsl.out]; simp; omega)
                  have z0 : wz.cell? ⟨s1, 0, none⟩ = some (.int .i64 (Sc.nth ys 0)) := by simp [World.cell?, Hh4.out, stp3]
                  have z1 : wz.cell? ⟨s1, 1, none⟩ = some (.int .i64 (Sc.nth ys 1)) := by simp [World.cell?, Hh4.out, stp3]
                  have z2 : wz.cell? ⟨s1, 2, none⟩ = some (.int .i64 (Sc.nth ys 2)) := by simp [World.cell?, Hh4.out, stp3]
                  have z3 : wz.cell? ⟨s1, 3, none⟩ = some (.slice aK q cK) := by simp [World.cell?, Hh4.out, stp3]
                  have Hhs := Lib.hid hs
                  clear hstep hoo hqx hok hqc hcm3 hsz1 hy0 hit hs hqe
                  go_wp2_with (first
                    | (refine wpList_app (EIn G EStp) rfl rfl (by rfl) (by rfl) ti_rstps Hit.out.1 rfl Hit.out.2 Hb1.out Hb2.out (by simp; omega) ?_; intro v15 w15 ho15 hg15 hv15 hb15))
                  obtain ⟨a15, c15, rfl, hc15, hm15, hr15, ho15'⟩ := ho15.shape (k + 1) (by simp [Hsl.out])
                  have HO15 := Lib.hid (show Only (fun p => G ≤ p) wz w15 from (Below.only (S := fun p => G ≤ p) ((Below.refl wz.heap.size wz).alloc (Nat.le_refl _) _)).trans (T := fun p => G ≤ p) ⟨hb15.os, hb15.tape, hb15.output, hb15.size, fun p hp hn => hb15.block p (by omega)⟩ fun _ _ h => h)
                  have Ho15 := Lib.hid ho15'
                  have Hnext := Lib.hid (show bv (BitVec.ofNat 64 k + 1#64) = bv (BitVec.ofNat 64 (k + 1)) by rw [BitVec.ofNat_add])
                  have Hbk' := Lib.hid (show bv (BitVec.ofNat 64 (k + 1)) = ((k + 1 : Nat) : Int) by unfold bv; rw [BitVec.toNat_ofNat]; omega)
                  clear ho15 hg15 hv15 hr15 hb15 ho15'
                  go_wp2_with fail
                  go_roundw
                  case rel =>
                    exact ⟨k + 1, ss ++ [(Sc.nth ys 0, Sc.nth ys 1, Sc.nth ys 2, xs)], r, a12, c12, a15, c15, rfl, hrc, hr8, rfl, by rw [Hnext.out], by omega, by simp [Hsl.out], Hhs.out.only (by decide) HO15.out (fun p hp => by omega), Ho15.out, Lib.hid (Ho4q.out.trans HO15.out fun _ _ h => h), Hmu'⟩
                  case measure =>
                    rw [Hnext.out]
                    show N - (bv (BitVec.ofNat 64 (k + 1))).toNat < N - (bv (BitVec.ofNat 64 k)).toNat
                    rw [Hbk'.out, Hbk.out]
                    omega
        · have hle' : ¬ (bv (BitVec.ofNat 64 k) < bv x) := by rw [Hbk.out, Hbn.out]; omega
          have hk1 : k = N := by omega
          have hok := Sc.d7 Hcf.out Hp.out (by rw [← HN.out]; exact hN2) (by rw [← HN.out, ← hk1]; exact Hmu.out)
          rw [Hll.out, ← HR.out] at hok
          have Hfin := Lib.hid hok
          obtain ⟨_, _, e9, hkc, hcm9, _, _⟩ := Hown.out.shape k Hsl.out.symm
          injection e9 with e91 e92 e93
          subst e91
          subst e93
          have HLs := Lib.hid (show Sl EStp (fun b => G ≤ b) wq aL ss from Hown.out.sl_in (Nat.le_refl _) (Nat.le_refl _))
          have HMq := Lib.hid (show wq.heap[M]? = some (.cells (rcells cc) 39 (0, 0)) by rw [Ho2.out.block M (by omega) (by omega)]; exact HM10.out)
          clear hok e92 hle hk1
          by_cases h7 : 7 < u.length
          · have h7' : 7 < (u.length : Int) := by omega
            have Hd := Lib.hid (show R = (Sc.zeroC, [], 12) by rw [Hfin.out, if_pos (.inl h7)])
            clear h7
            go_wp2_with (first | (refine wpList_storeRow rfl _ _ _ rfl B rfl rzero rzero rfl _ HhBq.out (rconf_size _) rfl (rconf_one _) ?_))
            exact Hbad.out _ _ 12 (setRow_at HhBq.out) ((Hbq.out).trans (setRow_below _ (by omega) (Nat.le_refl _))) Hd.out rfl rfl rfl
          · have h7' : ¬ (7 < (u.length : Int)) := by omega
            go_wp2_with fail
            go_loop [178] (fun i => ∃ q : Nat, q ≤ u.length ∧ i = .int .i64 q ∧ ∀ x ∈ u.take q, x = false) (fun i => u.length - (intOf i).toNat)
            case atStart => exact ⟨0, Nat.zero_le _, rfl, by simp⟩
            case round =>
              obtain ⟨q, hq, rfl, hzero⟩ := hrel
              by_cases hlq : q < u.length
              · have hqi : (q : Int) < (u.length : Int) := by omega
                obtain ⟨bu, ou, rfl, hcu⟩ := SB.at hs q (by rw [Bts.asB_len]; exact hlq)
                rw [Bts.asB_get u q hlq] at hcu
                have htk : u.take (q + 1) = u.take q ++ [u[q]] := (List.take_append_getElem hlq).symm
                have hmem : u[q] ∈ u := List.getElem_mem hlq
                have Hzero := Lib.hid hzero
                have Htk := Lib.hid htk
                clear hzero htk
                cases hx : u[q] with
                | true =>
                  have Hd := Lib.hid (show R = (Sc.zeroC, [], 12) by rw [Hfin.out, if_pos (.inr (List.any_eq_true.2 ⟨true, by rw [← hx]; exact hmem, rfl⟩))])
                  rw [hx] at hcu
                  have hcu' : wq.cell? ⟨bu, ou + q, none⟩ = some (.int .u8 1) := hcu
                  clear hx hmem hcu
                  go_wp2_with (first | (refine wpList_storeRow rfl _ _ _ rfl B rfl rzero rzero rfl _ HhBq.out (rconf_size _) rfl (rconf_one _) ?_))
                  exact Hbad.out _ _ 12 (setRow_at HhBq.out) ((Hbq.out).trans (setRow_below _ (by omega) (Nat.le_refl _))) Hd.out rfl rfl rfl
                | false =>
                  rw [hx] at hcu
                  have hcu' : wq.cell? ⟨bu, ou + q, none⟩ = some (.int .u8 0) := hcu
                  have hz' : ∀ x ∈ u.take (q + 1), x = false := by
                    rw [Htk.out, hx]
                    intro x hx
                    rcases List.mem_append.1 hx with h | h
                    · exact Hzero.out x h
                    · exact List.mem_singleton.1 h
                  have Hz' := Lib.hid hz'
                  clear hz' hx hmem hcu
                  go_wp2_with fail
                  go_round
                  case rel => exact ⟨q + 1, by omega, by go_num, Hz'.out⟩
                  case measure => simp [intOf]; omega
              · have hqi : ¬ ((q : Int) < (u.length : Int)) := by omega
                rw [List.take_of_length_le (by omega)] at hzero
                have hd : R = (cc, ss, 0) := by
                  rw [Hfin.out, if_neg]
                  rintro (h | h)
                  · exact h7 h
                  · obtain ⟨x, hx, hx2⟩ := List.any_eq_true.1 h
                    rw [hzero x hx] at hx2
                    cases hx2
                have HRx := Lib.hid hd
                clear hd hzero
                go_wp2_with (first
                  | (refine wpList_loadRow rfl _ _ rfl M rfl (rcells cc) _ (0, 0) _ HMq.out Tryd.underlying39 rfl (rconf_size _) ?_)
                  | (refine wpList_storeRow rfl _ _ _ rfl B rfl rzero (rcells cc) rfl _ HhBq.out (rconf_size _) rfl (rconf_one _) ?_))
                refine bodyPost_ret (v := .tuple #[.agg (rcells cc), .slice aL k cL, .int .i64 0]) ?_ rfl ?_
                · rw [results_cell3 (P := Tryd.prog) Tryd.results20 _ _ B 39 (rcells cc) (0, 0) _ rfl (setRow_at HhBq.out) Tryd.underlying39 rfl (rconf_size _)]
                  rfl
                · rw [HRx.out]
                  have hrow := setRow_only wq B (rcells cc)
                  refine ⟨aL, cL, by rw [Hsl.out], by rw [Hsl.out]; exact hkc, hcm9, ?_, Hbq.out.trans (setRow_below _ (by omega) (Nat.le_refl _))⟩
                  exact HLs.out.mono (by decide) fun q hq hlt => ⟨hrow.block q hlt (by omega), by omega⟩
end Go.Proofs.YtdpopdgeipgheaaDoor


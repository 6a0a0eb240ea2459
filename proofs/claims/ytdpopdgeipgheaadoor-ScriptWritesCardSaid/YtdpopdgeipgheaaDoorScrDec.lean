
/-
  What the decoder of setups and scripts computes.
-/
import Derived.Test.YtdpopdgeipgheaaDoorScrP
import Derived.Deep.RegionLaw
import Derived.Deep.CutBlock
namespace Go.Proofs.YtdpopdgeipgheaaDoor
open Go.RowKit
set_option linter.unusedVariables false

theorem conf_size (c : Sc.Conf) : (Tryd.prog.info? 26).map (·.size) = some (confCells c).size := by
  rw [show (confCells c).size = 16 by rfl]; kernel_rfl

set_option maxRecDepth 100000 in
set_option maxHeartbeats 6400000 in
theorem script_Decode (B : Nat) (a : Option Addr) (n c : Nat) (l : List (BitVec 8)) (w : World) (hB : w.heap.size = B) (hr : RB w a n l) (hnc : n ≤ c) (hcm : c ≤ maxLen) (hln : n ≤ 1000000) (hbd : Bounds w) :
    Calls Tryd.prog 17 #[.slice a n c] w (ScrPost B (Sc.dec (Bts.bitsOf l)) w) := by
  obtain ⟨rfl, hs⟩ := hr
  obtain ⟨R, hR⟩ : ∃ R, R = Sc.dec (Bts.bitsOf l) := ⟨_, rfl⟩
  rw [← hR]
  have hgB : 0 < B := by rw [← hB]; exact hbd.lt
  obtain ⟨w1, hw1⟩ : ∃ x, x = w.alloc (.cells zeroConf 26) := ⟨_, rfl⟩
  have hh1 : w1.heap[B]? = some (.cells zeroConf 26 (0, 0)) := by subst hw1; subst hB; exact heap_alloc_new w _
  have hb1 : Below B w w1 := by subst hw1; subst hB; exact (Below.refl _ _).alloc (Nat.le_refl _) _
  have hn1 : w1.heap.size = B + 1 := by subst hw1; subst hB; simp
  have hs1 : SB w1 a l := hs.below (by decide) (by rw [hB]; exact hb1)
  have HR := Lib.hid hR
  have HB := Lib.hid hB
  have Hbd := Lib.hid hbd
  have hw1' : w.alloc (.cells #[.int .i64 0, .int .i64 0, .int .i64 0, .int .i64 0, .int .i64 0, .int .i64 0, .int .i64 0, .int .i64 0, .int .i64 0, .int .u64 0, .int .i64 0, .int .i64 0, .int .i64 0, .int .i64 0, .int .i64 0, .int .i64 0] 26) = w1 := hw1.symm
  clear hw1 hs hR hbd
  go_enter Tryd.func17, Tryd.ntmps17
  go_upto_region 1 with fail
  clear hw1' hB
  go_wp2_with fail
  refine (bits_ReadS (B + 1) a l.length c l _ hn1 ⟨rfl, hs1⟩ (by omega)).mono ?_
  rintro e w2 ⟨g, rfl, hg, hr2, hb2⟩
  have hB2 : w2.heap[B]? = some (.cells zeroConf 26 (0, 0)) := by rw [hb2.block B (by omega)]; exact hh1
  have hbw2 : Below B w w2 := hb1.trans (hb2.mono (by omega))
  have hg2 := hr2.lt
  obtain ⟨F, hF⟩ : ∃ F, F = w2.heap.size := ⟨_, rfl⟩
  obtain ⟨w3, hw3⟩ : ∃ x, x = w2.alloc (.cells zeroConf 26) := ⟨_, rfl⟩
  have hb3 : Below w2.heap.size w2 w3 := by subst hw3; exact (Below.refl _ _).alloc (Nat.le_refl _) _
  have hh3 : w3.heap[F]? = some (.cells zeroConf 26 (0, 0)) := by subst hw3; subst hF; exact heap_alloc_new w2 _
  have hn3 : w3.heap.size = F + 1 := by subst hw3; subst hF; simp
  have hr3 := hr2.keep hb3
  rw [← hF] at hg2 hb3
  have hB3 : w3.heap[B]? = some (.cells zeroConf 26 (0, 0)) := by rw [hb3.block B (by omega)]; exact hB2
  have hbw3 : Below B w w3 := hbw2.trans (hb3.mono (by omega))
  have hw3' : w2.alloc (.cells #[.int .i64 0, .int .i64 0, .int .i64 0, .int .i64 0, .int .i64 0, .int .i64 0, .int .i64 0, .int .i64 0, .int .i64 0, .int .u64 0, .int .i64 0, .int .i64 0, .int .i64 0, .int .i64 0, .int .i64 0, .int .i64 0] 26) = w3 := hw3.symm
  have HF := Lib.hid hF
  clear hh1 hb1 hn1 hs1 hb2 hr2 hB2 hbw2 hb3 hF hw3
  go_upto_region 3 with fail
  clear hw3'
  rw [← HF.out]
  go_wp2_with fail
  refine (script_fields F _).mono ?_
  rintro e w6 ⟨rfl, hp6, hb6⟩
  rw [hn3] at hp6 hb6 ⊢
  have hr6 := hr3.keep (by rw [hn3]; exact hb6)
  have hM6 : w6.heap[F]? = some (.cells (confCells ([], 0#64)) 26 (0, 0)) := by rw [hb6.block F (by omega)]; exact hh3
  have hB6 : w6.heap[B]? = some (.cells zeroConf 26 (0, 0)) := by rw [hb6.block B (by omega)]; exact hB3
  have hbw6 : Below B w w6 := hbw3.trans (hb6.mono (by omega))
  have hh6 : F + 1 < w6.heap.size := (Array.getElem?_eq_some_iff.1 hp6).1
  have HP6 := Lib.hid hp6
  have HB6 := Lib.hid hB6
  have Hbw6 := Lib.hid hbw6
  obtain ⟨s0, hs0'⟩ : ∃ s0 : Bts.St, s0 = .inl (Bts.bitsOf l) := ⟨_, rfl⟩
  rw [← hs0'] at hr6
  have Hs0 := Lib.hid hs0'
  have Hl0 := Lib.hid (Bts.loop_start Bts.numP 15 s0)
  clear hr3 hh3 hn3 hB3 hbw3 hbw6 hb6 hp6 hB6 hs0'
  go_wp2_with fail
  go_loopw [19] (fun i wr => ∃ (j : Nat) (vs : List (BitVec 64)) (st : Bts.St), j ≤ 15 ∧ i = .int .i64 j ∧ vs.length = j ∧ RdS (fun k => B + 1 ≤ k ∧ k < g) wr g l st ∧ wr.heap[F]? = some (.cells (confCells (vs.map Sc.clip, 0#64)) 26 (0, 0)) ∧ RowKit.Hid (Only (fun q => q = g ∨ q = F) w6 wr) ∧ RowKit.Hid (Bts.LoopP Bts.numP 15 s0 j vs st)) (fun i _ => 15 - (intOf i).toNat)
  case atStart => exact ⟨0, [], s0, Nat.zero_le _, rfl, rfl, hr6, hM6, Lib.hid (Only.refl _ _), Hl0⟩
  case round =>
    clear hr6 hM6
    obtain ⟨j, vs, st, hj, rfl, hvl, hr, hM, Ho, Hmid⟩ := hrel
    have hszr : w6.heap.size ≤ wr.heap.size := Ho.out.size
    by_cases hlt : j < 15
    · have hji : (j : Int) < 15 := by omega
      have pj : wr.cell? ⟨F + 1, j, none⟩ = some (.pointer (some ⟨F, fo j, none⟩)) := by
        have e := Ho.out.block (F + 1) hh6 (by omega)
        simp [World.cell?, e, HP6.out, scPtrs_get _ _ hlt]
      go_wp2_with fail
      refine (bits_RNumS g l st _ hr (by omega)).mono ?_
      rintro e w7 ⟨rfl, hr7, ho7⟩
      have hgo := Bts.go_run Bts.numP 0#64 st
      obtain ⟨v, hv⟩ : ∃ z, z = (Bts.runS Bts.numP 0#64 st).1 := ⟨_, rfl⟩
      obtain ⟨st1, hst1⟩ : ∃ z, z = (Bts.runS Bts.numP 0#64 st).2 := ⟨_, rfl⟩
      rw [← hst1, ← hv] at hgo
      rw [← hst1] at hr7
      rw [← hv]
      have Hgo := Lib.hid hgo
      clear hv hst1 hgo
      have hM7 : w7.heap[F]? = some (.cells (confCells (vs.map Sc.clip, 0#64)) 26 (0, 0)) := by rw [ho7.block F (by omega) (by omega)]; exact hM
      have m7 : w7.cell? ⟨F, fo j, none⟩ = some (.int .i64 (Sc.cf (vs.map Sc.clip, 0#64) j)) := by simp [World.cell?, hM7, confCells_num _ _ hlt]
      have mf : w7.frozen? ⟨F, fo j, none⟩ = false := by simp [World.frozen?, hM7]
      have HM7 := Lib.hid hM7
      have Ho7 := Lib.hid ho7
      have hs7 : w6.heap.size ≤ w7.heap.size := Nat.le_trans hszr ho7.size
      have hvb : 0 ≤ bv v ∧ bv v < 18446744073709551616 := by unfold bv; have := v.isLt; omega
      obtain ⟨hv0, hv1⟩ := hvb
      have hcl : Sc.clip v = if 1099511627776 < bv v then 1099511627776 else bv v := by
        unfold Sc.clip bv; split <;> split <;> omega
      have Hcl := Lib.hid hcl
      clear hr hM pj hM7 ho7 hcl
      have hrel2 : ∀ y : Int, y = Sc.clip v → ∃ (j' : Nat) (vs' : List (BitVec 64)) (st' : Bts.St), j' ≤ 15 ∧ Value.int .i64 ((j : Int) + 1) = .int .i64 j' ∧ vs'.length = j' ∧ RdS (fun k => B + 1 ≤ k ∧ k < g) (w7.setCell ⟨F, fo j, none⟩ (.int .i64 y)) g l st' ∧ (w7.setCell ⟨F, fo j, none⟩ (.int .i64 y)).heap[F]? = some (.cells (confCells (vs'.map Sc.clip, 0#64)) 26 (0, 0)) ∧ RowKit.Hid (Only (fun q => q = g ∨ q = F) w6 (w7.setCell ⟨F, fo j, none⟩ (.int .i64 y))) ∧ RowKit.Hid (Bts.LoopP Bts.numP 15 s0 j' vs' st') := by
        intro y hy
        have h78 : Only (· = F) w7 (w7.setCell ⟨F, fo j, none⟩ (.int .i64 y)) := Only.setCell (S := (· = F)) (Only.refl _ _) (p := ⟨F, fo j, none⟩) (.inl rfl) _
        have hM8 := heap_set HM7.out (fo j) (.int .i64 y)
        have hset := conf_set (vs.map Sc.clip) 0#64 y (by rw [List.length_map]; omega)
        rw [List.length_map, hvl] at hset
        rw [hset] at hM8
        refine ⟨j + 1, vs ++ [v], st1, by omega, rfl, by simp [hvl], hr7.only h78 (by omega) (fun k hk => by omega), by rw [List.map_append, List.map_singleton, ← hy]; exact hM8, Lib.hid ?_, Lib.hid ?_⟩
        · have h1 := Ho.out.trans (Ho7.out.mono (T := fun q => q = g ∨ q = F) fun _ h => .inl h) fun _ _ h => h
          exact h1.trans (h78.mono (T := fun q => q = g ∨ q = F) fun _ h => .inr h) fun _ _ h => h
        · cases st with
          | inl u => exact Bts.loop_step Hmid.out hlt Hgo.out
          | inr e' => rw [Bts.go_inr_st Hgo.out]; exact Bts.loop_on Hmid.out
      have Hrel2 := Lib.hid hrel2
      clear hrel2 hr7
      have Hy := Lib.hid (show min (bv v) 1099511627776 = Sc.clip v by rw [Hcl.out]; split <;> omega)
      go_wp2_with fail
      go_roundw
      case rel => exact Hrel2.out _ Hy.out
      case measure => simp [intOf]; omega
    · have hji : ¬ ((j : Int) < 15) := by omega
      have hj9 : j = 15 := by omega
      have hgoV := Bts.loop_end Hmid.out (.inl hj9)
      have HgoV := Lib.hid hgoV
      have hvl : vs.length = 15 := by omega
      clear hgoV Hmid Hl0
      go_upto_region 8 with fail
      clear hlt hj9 hj hji
      have h9 : wr.cell? ⟨F, 9, none⟩ = some (.int .u64 0) := by simp [World.cell?, hM, confCells, bv]
      go_wp2_with fail
      refine (bits_GetS g l st 64 64 _ hr (by omega) (by rfl) (by decide)).mono ?_
      rintro e w7 ⟨rfl, hr7, ho7⟩
      have hgo := Bts.go_run (Bts.getP 64) 0#64 st
      obtain ⟨sd, hsd⟩ : ∃ z, z = (Bts.runS (Bts.getP 64) 0#64 st).1 := ⟨_, rfl⟩
      obtain ⟨st1, hst1⟩ : ∃ z, z = (Bts.runS (Bts.getP 64) 0#64 st).2 := ⟨_, rfl⟩
      rw [← hst1, ← hsd] at hgo
      rw [← hst1] at hr7
      rw [← hsd]
      have hM7 : w7.heap[F]? = some (.cells (confCells (vs.map Sc.clip, 0#64)) 26 (0, 0)) := by rw [ho7.block F (by omega) (by omega)]; exact hM
      have m7 : w7.cell? ⟨F, 9, none⟩ = some (.int .u64 0) := by simp [World.cell?, hM7, confCells, bv]
      have mf : w7.frozen? ⟨F, 9, none⟩ = false := by simp [World.frozen?, hM7]
      obtain ⟨cc, hcc⟩ : ∃ z, z = Sc.ofRaw (vs, sd) := ⟨_, rfl⟩
      have h78 : Only (· = F) w7 (w7.setCell ⟨F, 9, none⟩ (.int .u64 (bv sd))) := Only.setCell (S := (· = F)) (Only.refl _ _) (p := ⟨F, 9, none⟩) (.inl rfl) _
      have hM8 := heap_set hM7 9 (.int .u64 (bv sd))
      rw [conf_seed, show ((vs.map Sc.clip, sd) : Sc.Conf) = cc from hcc.symm] at hM8
      have hr8 := hr7.only h78 (by omega) (fun k hk => by omega)
      have hcl15 : cc.1.length = 15 := by rw [hcc]; show (vs.map Sc.clip).length = 15; rw [List.length_map]; exact hvl
      have hO8 : Only (fun q => q = g ∨ q = F) w6 (w7.setCell ⟨F, 9, none⟩ (.int .u64 (bv sd))) := ((Ho.out.trans (ho7.mono (T := fun q => q = g ∨ q = F) fun _ h => .inl h) fun _ _ h => h).trans (h78.mono (T := fun q => q = g ∨ q = F) fun _ h => .inr h) fun _ _ h => h)
      have hgoC := Sc.go_conf HgoV.out hgo
      rw [← hcc] at hgoC
      obtain ⟨st2, hst2⟩ : ∃ z, z = if Sc.check cc = 0 then st1 else Bts.failS st1 (Sc.check cc) := ⟨_, rfl⟩
      rw [← hst2] at hgoC
      have HM8 := Lib.hid hM8
      have Hr8 := Lib.hid hr8
      have HO8 := Lib.hid hO8
      have HgoC := Lib.hid hgoC
      have Hst2 := Lib.hid hst2
      obtain ⟨w8, hw8⟩ : ∃ z, z = w7.setCell ⟨F, 9, none⟩ (.int .u64 (bv sd)) := ⟨_, rfl⟩
      rw [← hw8] at HM8 Hr8 HO8
      have hex8 := hw8.symm
      have Hcc := Lib.hid hcc
      have Hcl := Lib.hid hcl15
      clear hr hM hgo hsd hst1 hM7 h78 hM8 hr8 hO8 hgoC hst2 hw8 hr7 ho7 Ho HgoV hcc hcl15 h9 hvl
      go_upto_region 9 with fail
      clear hex8 m7 mf
      have hr8 := Hr8.out
      have hbw8 : Below B w w8 := Hbw6.out.trans (HO8.out.below (by omega) fun q hq => by omega)
      have Hbw8 := Lib.hid hbw8
      clear hbw8
      go_wp2_with fail
      refine (bits_ErrS g l st1 _ hr8).mono ?_
      rintro e w9 ⟨rfl, rfl⟩
      obtain ⟨er, her⟩ : ∃ z, z = Bts.errS st1 := ⟨_, rfl⟩
      rw [← her]
      have Her := Lib.hid her
      obtain ⟨dq, hdq⟩ : ∃ z, (er == 0) = z := ⟨_, rfl⟩
      clear her
      go_upto_if 35 with fail
      have Hdq := Lib.hid hdq
      clear hdq
      go_cut [] (fun wx => RdS (fun k => B + 1 ≤ k ∧ k < g) wx g l st2 ∧ Only (· = g) w8 wx)
      case first =>
        cases st1 with
        | inr e1 =>
          have he1 := hr8.nz e1 rfl
          have hd : dq = false := by rw [← Hdq.out, Her.out]; simp [Bts.errS, he1]
          have hz : st2 = .inr e1 := by rw [Hst2.out]; split <;> rfl
          have Hz := Lib.hid hz
          subst hd
          clear hz he1
          go_wp2_with fail
          go_meet
          exact ⟨by rw [Hz.out]; exact hr8, Only.refl _ _⟩
        | inl u1 =>
          have hd : dq = true := by rw [← Hdq.out, Her.out]; rfl
          subst hd
          clear hr8
          go_wp2_with (refine wpList_loadRow rfl _ _ rfl F rfl (confCells cc) _ (0, 0) _ HM8.out Tryd.underlying26 rfl size_conf ?_)
          refine (script_Check cc _ (Hbd.out.below Hbw8.out hgB)).mono ?_
          rintro e w10 ⟨rfl, hb10⟩
          have hr10 := Hr8.out.keep hb10
          have Ho10 := Lib.hid (Below.only hb10 : Only (· = g) _ _)
          by_cases hk : Sc.check cc = 0
          · rw [hk]
            have hz : st2 = .inl u1 := by rw [Hst2.out, if_pos hk]
            have Hz := Lib.hid hz
            clear hz hk hb10
            go_wp2_with fail
            refine (bits_Fail0S g l _ _ hr10).mono ?_
            rintro e w11 ⟨rfl, hr11, ho11⟩
            go_wp2_with fail
            go_meet
            exact ⟨by rw [Hz.out]; exact hr11, Ho10.out.trans ho11 fun _ _ h => h⟩
          · have hz : st2 = Bts.failS (.inl u1) (Sc.check cc) := by rw [Hst2.out, if_neg hk]
            have hck : -9223372036854775808 ≤ Sc.check cc ∧ Sc.check cc ≤ 9223372036854775807 := by
              rcases Sc.check_errs cc with h | h | h <;> rw [h] <;> decide
            obtain ⟨z, hzc⟩ : ∃ z, z = Sc.check cc := ⟨_, rfl⟩
            rw [← hzc] at hz hk hck ⊢
            have Hz := Lib.hid hz
            have Hk := Lib.hid hk
            clear hz hk hb10 hzc
            go_wp2_with fail
            refine (bits_FailS g l _ z _ hr10 hck Hk.out).mono ?_
            rintro e w11 ⟨rfl, hr11, ho11⟩
            go_wp2_with fail
            go_meet
            exact ⟨by rw [Hz.out]; exact hr11, Ho10.out.trans ho11 fun _ _ h => h⟩
      obtain ⟨hr9, ho9⟩ := hcut
      obtain ⟨w9, hw9⟩ : ∃ z, z = wc := ⟨_, rfl⟩
      subst hw9
      have hM9 : w9.heap[F]? = some (.cells (confCells cc) 26 (0, 0)) := by rw [ho9.block F (by have := HO8.out.size; omega) (by omega)]; exact HM8.out
      have hO9 : Only (fun q => q = g ∨ q = F) w6 w9 := HO8.out.trans (ho9.mono (T := fun q => q = g ∨ q = F) fun _ h => .inl h) fun _ _ h => h
      have HM9 := Lib.hid hM9
      have HO9 := Lib.hid hO9
      clear ho9 hM9 hO9 hr8 Hr8 HM8 HO8 Hst2 Hdq Her Hbw8
      go_wp2_with fail
      refine (bits_RNumS g l st2 _ hr9 (by omega)).mono ?_
      rintro e w7 ⟨rfl, hr7, ho7⟩
      have hgo := Bts.go_filt (fun n => decide (n.toNat ≤ 20000)) 4 (Bts.go_run Bts.numP 0#64 st2)
      obtain ⟨n, hn⟩ : ∃ z, z = (Bts.runS Bts.numP 0#64 st2).1 := ⟨_, rfl⟩
      obtain ⟨st3, hst3⟩ : ∃ z, z = (Bts.runS Bts.numP 0#64 st2).2 := ⟨_, rfl⟩
      rw [← hst3, ← hn] at hgo
      rw [← hst3] at hr7
      rw [← hn]
      obtain ⟨st4, hst4⟩ : ∃ z, z = if decide (n.toNat ≤ 20000) = true then st3 else Bts.failS st3 4 := ⟨_, rfl⟩
      rw [← hst4] at hgo
      have Hst4 := Lib.hid hst4
      have HgoN := Lib.hid hgo
      have hM7 : w7.heap[F]? = some (.cells (confCells cc) 26 (0, 0)) := by rw [ho7.block F (by have := HO9.out.size; omega) (by omega)]; exact HM9.out
      have hO7 : Only (fun q => q = g ∨ q = F) w6 w7 := HO9.out.trans (ho7.mono (T := fun q => q = g ∨ q = F) fun _ h => .inl h) fun _ _ h => h
      have HM7 := Lib.hid hM7
      have HO7 := Lib.hid hO7
      clear hn hst3 hst4 hgo hr9 ho7 hM7 hO7 HM9 HO9
      obtain ⟨dq, hdq⟩ : ∃ z, decide (20000 < bv n) = z := ⟨_, rfl⟩
      go_upto_if 43 with fail
      have Hdq := Lib.hid hdq
      clear hdq
      go_cut [] (fun wx => RdS (fun k => B + 1 ≤ k ∧ k < g) wx g l st4 ∧ Only (· = g) w7 wx)
      case first =>
        cases dq
        · have hz : st4 = st3 := by
            have := of_decide_eq_false Hdq.out
            rw [Hst4.out, if_pos (by unfold bv at this; rw [decide_eq_true_eq]; omega)]
          have Hz := Lib.hid hz
          clear hz
          go_wp2_with fail
          go_meet
          exact ⟨by rw [Hz.out]; exact hr7, Only.refl _ _⟩
        · have hz : st4 = Bts.failS st3 4 := by
            have := of_decide_eq_true Hdq.out
            rw [Hst4.out, if_neg (by unfold bv at this; rw [decide_eq_true_eq]; omega)]
          have Hz := Lib.hid hz
          clear hz
          go_wp2_with fail
          refine (bits_FailS g l st3 4 _ hr7 (by decide) (by decide)).mono ?_
          rintro e w8 ⟨rfl, hr8, ho8⟩
          go_wp2_with fail
          go_meet
          exact ⟨by rw [Hz.out]; exact hr8, ho8⟩
      obtain ⟨hr8, ho8⟩ := hcut
      obtain ⟨w8, hw8⟩ : ∃ z, z = wc := ⟨_, rfl⟩
      subst hw8
      have hs7 : w6.heap.size ≤ w7.heap.size := HO7.out.size
      have hM8 : w8.heap[F]? = some (.cells (confCells cc) 26 (0, 0)) := by rw [ho8.block F (by omega) (by omega)]; exact HM7.out
      have hO8 : Only (fun q => q = g ∨ q = F) w6 w8 := HO7.out.trans (ho8.mono (T := fun q => q = g ∨ q = F) fun _ h => .inl h) fun _ _ h => h
      have hbig : ∀ u : Bts.Bits, st4 = .inl u → n.toNat ≤ 20000 := by
        intro u hu
        rw [Hst4.out] at hu
        split at hu
        · rename_i h; simpa using h
        · cases st3 <;> cases hu
      have Hbig := Lib.hid hbig
      have HM8 := Lib.hid hM8
      have HO8 := Lib.hid hO8
      have hs8 : w6.heap.size ≤ w8.heap.size := hO8.size
      obtain ⟨N, hN⟩ : ∃ N, N = n.toNat := ⟨_, rfl⟩
      have hN64 : N < 18446744073709551616 := by rw [hN]; exact n.isLt
      have HN := Lib.hid hN
      have Hl2 := Lib.hid (Bts.loop_start Sc.stepP N st4)
      have Ho8w := Lib.hid (Only.refl (· = g) w8)
      clear hr7 ho8 hbig hN hs7 hM8 hO8 HM7 HO7 Hdq
      go_wp2_with fail
      go_loopw [10, 11] (fun t10 i wr => ∃ (k : Nat) (aL : Option Addr) (cL : Nat) (ts : List Sc.Step) (st : Bts.St), k ≤ N ∧ k ≤ 20000 ∧ t10 = .slice aL k cL ∧ i = .int .u64 (bv (BitVec.ofNat 64 k)) ∧ RdS (fun k => B + 1 ≤ k ∧ k < g) wr g l st ∧ Own (EIn w8.heap.size EStp) 58 w8.heap.size wr (.slice aL k cL) ts ∧ ts.length = k ∧
        RowKit.Hid (Only (· = g) w8 wr) ∧ RowKit.Hid (Bts.LoopP Sc.stepP N st4 k ts st)) (fun _ i _ => N - (intOf i).toNat)
      case atStart => exact ⟨0, none, 0, [], st4, Nat.zero_le _, Nat.zero_le _, rfl, rfl, hr8, Own.nil _ _ _ _, rfl, Ho8w, Hl2⟩
      case round =>
        clear hr8 Ho8w
        obtain ⟨k, aL, cL, ts, st, hk, hk2, rfl, rfl, hr, ho, htl, HO, Hmid⟩ := hrel
        obtain ⟨wo, hwo⟩ : ∃ z, z = wr := ⟨_, rfl⟩
        subst hwo
        have hszr : w8.heap.size ≤ wo.heap.size := HO.out.size
        have hbk : bv (BitVec.ofNat 64 k) = (k : Int) := by unfold bv; rw [BitVec.toNat_ofNat]; omega
        have hbn : bv n = (N : Int) := by unfold bv; rw [HN.out]
        have Hbk := Lib.hid hbk
        have Hbn := Lib.hid hbn
        have Htl := Lib.hid htl
        have hfin : (k = N ∨ ∃ e, st = .inr e) → Bts.Go (Bts.manyP Sc.stepP n.toNat) st4 ts st := fun h => by
          have h1 := Bts.loop_end Hmid.out h
          rw [HN.out] at h1
          exact h1
        have Hfin := Lib.hid hfin
        have Hown := Lib.hid ho
        clear hbk hbn hfin htl ho
        by_cases hcond : k < N ∧ ∃ u, st = .inl u
        · obtain ⟨hlt, u, rfl⟩ := hcond
          have hlt' : bv (BitVec.ofNat 64 k) < bv n := by rw [Hbk.out, Hbn.out]; omega
          have hN4 : N ≤ 20000 := by
            have hm := Hmid.out
            unfold Bts.LoopP at hm
            cases h2 : st4 with
            | inr e' => rw [h2] at hm; cases hm
            | inl l => rw [HN.out]; exact Hbig.out l h2
          go_wp2_with fail
          refine (bits_ErrS g l (.inl u) _ hr).mono ?_
          rintro e wa ⟨rfl, rfl⟩
          rw [show Bts.errS (.inl u) = 0 by rfl]
          go_wp2_with fail
          refine (bits_RIntS g l (.inl u) _ hr (by omega)).mono ?_
          rintro e wa ⟨rfl, hra, hoa⟩
          have ga := Bts.go_run Bts.intP 0 (.inl u)
          have ra := Bts.int_rng (.inl u)
          obtain ⟨x, hx⟩ : ∃ z, z = (Bts.runS Bts.intP 0 (.inl u)).1 := ⟨_, rfl⟩
          obtain ⟨sa, hsa⟩ : ∃ z, z = (Bts.runS Bts.intP 0 (.inl u)).2 := ⟨_, rfl⟩
          rw [← hsa] at hra ga
          rw [← hx] at ga ra ⊢
          have Ga := Lib.hid ga
          have Ra := Lib.hid ra
          have HOa := Lib.hid hoa
          clear hx hsa ga ra hr hoa
          go_wp2_with fail
          refine (bits_RIntS g l sa _ hra (by omega)).mono ?_
          rintro e wb ⟨rfl, hrb, hob⟩
          have gb := Bts.go_run Bts.intP 0 sa
          have rb := Bts.int_rng sa
          obtain ⟨y, hy⟩ : ∃ z, z = (Bts.runS Bts.intP 0 sa).1 := ⟨_, rfl⟩
          obtain ⟨sb, hsb⟩ : ∃ z, z = (Bts.runS Bts.intP 0 sa).2 := ⟨_, rfl⟩
          rw [← hsb] at hrb gb
          rw [← hy] at gb rb ⊢
          have Gb := Lib.hid gb
          have Rb := Lib.hid rb
          have HOb := Lib.hid (HOa.out.trans hob fun _ _ h => h)
          clear hy hsb gb rb hra hob
          go_wp2_with fail
          refine (bits_RIntS g l sb _ hrb (by omega)).mono ?_
          rintro e wd ⟨rfl, hrd, hod⟩
          have gd := Bts.go_run Bts.intP 0 sb
          have rd := Bts.int_rng sb
          obtain ⟨z, hz⟩ : ∃ z, z = (Bts.runS Bts.intP 0 sb).1 := ⟨_, rfl⟩
          obtain ⟨sd', hsd⟩ : ∃ z, z = (Bts.runS Bts.intP 0 sb).2 := ⟨_, rfl⟩
          rw [← hsd] at hrd gd
          rw [← hz] at gd rd ⊢
          have Gd := Lib.hid gd
          have Rd := Lib.hid rd
          have HOd := Lib.hid (HOb.out.trans hod fun _ _ h => h)
          clear hz hsd gd rd hrb hod
          have hszd : wo.heap.size ≤ wd.heap.size := HOd.out.size
          obtain ⟨we, hwe⟩ : ∃ q, q = wd.alloc (.cells #[.int .i64 x, .int .i64 y, .int .i64 z, .slice none 0 0] 58) := ⟨_, rfl⟩
          have hbe : Below wd.heap.size wd we := by subst hwe; exact (Below.refl _ _).alloc (Nat.le_refl _) _
          obtain ⟨s1, hs1⟩ : ∃ s, s = wd.heap.size := ⟨_, rfl⟩
          have hhe : we.heap[s1]? = some (.cells #[.int .i64 x, .int .i64 y, .int .i64 z, .slice none 0 0] 58 (0, 0)) := by subst hwe; subst hs1; exact heap_alloc_new wd _
          have hre := hrd.keep hbe
          have hne : we.heap.size = s1 + 1 := by subst hwe; subst hs1; simp
          have hoe : Only (· = g) wo we := HOd.out.trans (Below.only hbe : Only (· = g) wd we) fun _ _ h => h
          have HOe := Lib.hid hoe
          have Hs1 := Lib.hid hs1
          have hgs1 : F + 1 < s1 := by omega
          have hws1 : wo.heap.size ≤ s1 := by omega
          clear hrd hbe hoe
          go_upto_region 19 with fail
          rw [← hwe, ← Hs1.out]
          clear hwe hs1
          go_wp2_with fail
          refine (bits_RNumS g l sd' _ hre (by omega)).mono ?_
          rintro e wf ⟨rfl, hrf, hof⟩
          have gf := Bts.go_run Bts.numP 0#64 sd'
          obtain ⟨n1, hn1⟩ : ∃ z, z = (Bts.runS Bts.numP 0#64 sd').1 := ⟨_, rfl⟩
          obtain ⟨sf, hsf⟩ : ∃ z, z = (Bts.runS Bts.numP 0#64 sd').2 := ⟨_, rfl⟩
          rw [← hsf] at hrf gf
          rw [← hn1] at gf ⊢
          have hhf : wf.heap[s1]? = some (.cells #[.int .i64 x, .int .i64 y, .int .i64 z, .slice none 0 0] 58 (0, 0)) := by rw [hof.block s1 (by omega) (by omega)]; exact hhe
          have Gf := Lib.hid gf
          have HOf := Lib.hid (HOe.out.trans hof fun _ _ h => h)
          have hszf : s1 + 1 ≤ wf.heap.size := by have := hof.size; omega
          obtain ⟨M, hM⟩ : ∃ M, M = n1.toNat := ⟨_, rfl⟩
          have hM64 : M < 18446744073709551616 := by rw [hM]; exact n1.isLt
          have hbM : bv n1 = bv (BitVec.ofNat 64 (M - 0)) := by rw [hM]; simp
          rw [hbM]
          have HM := Lib.hid hM
          have Hl3 := Lib.hid (Bts.loop_start Bts.intP M sf)
          have hsfb := hrf.bits
          have Hsfb := Lib.hid hsfb
          have HOff := Lib.hid (Only.refl (fun p => p = g ∨ p = s1) wf)
          clear hn1 hsf gf hre hhe hof hM hbM hsfb
          go_wp2_with fail
          go_loopw [13] (fun i wr => ∃ (q : Nat) (aK : Option Addr) (cK : Nat) (xs : List Int) (st : Bts.St), q ≤ M ∧ q ≤ 8000001 ∧ i = .int .u64 (bv (BitVec.ofNat 64 (M - q))) ∧ RdS (fun k => B + 1 ≤ k ∧ k < g) wr g l st ∧ Own EInt 3 wf.heap.size wr (.slice aK q cK) xs ∧ xs.length = q ∧
            wr.heap[s1]? = some (.cells #[.int .i64 x, .int .i64 y, .int .i64 z, .slice aK q cK] 58 (0, 0)) ∧ RowKit.Hid (Only (fun p => p = g ∨ p = s1) wf wr) ∧ RowKit.Hid (Bts.LoopP Bts.intP M sf q xs st)) (fun i _ => (intOf i).toNat)
          case atStart => exact ⟨0, none, 0, [], sf, Nat.zero_le _, Nat.zero_le _, rfl, hrf, Own.nil _ _ _ _, rfl, hhf, HOff, Hl3⟩
          case round =>
            clear hrf hhf HOff
            obtain ⟨q, aK, cK, xs, st, hq, hq8, rfl, hr, hok, hxl, hh, HOg, Hmid3⟩ := hrel
            have hszg : wf.heap.size ≤ wr.heap.size := HOg.out.size
            have hbq : bv (BitVec.ofNat 64 (M - q)) = ((M - q : Nat) : Int) := by unfold bv; rw [BitVec.toNat_ofNat]; omega
            have Hbq := Lib.hid hbq
            have Hxl := Lib.hid hxl
            have Hh := Lib.hid hh
            have Hok := Lib.hid hok
            have hfin3 : (q = M ∨ ∃ e, st = .inr e) → Bts.Go Sc.stepP (.inl u) (x, y, z, xs) st := fun h => by
              have h1 := Bts.loop_end Hmid3.out h
              rw [HM.out] at h1
              exact Sc.go_step Ga.out Gb.out Gd.out Gf.out h1
            have Hfin3 := Lib.hid hfin3
            have Hlc := Lib.hid (hok.shape q hxl.symm)
            clear hbq hxl hh hok hfin3
            by_cases hcq : q < M ∧ ∃ u', st = .inl u'
            · obtain ⟨hqt, u', rfl⟩ := hcq
              have hpos : 0 < bv (BitVec.ofNat 64 (M - q)) := by rw [Hbq.out]; omega
              have hq8' : q ≤ 8000000 := Bts.loop_ints_le Hmid3.out fun l' hl' => by have := Hsfb.out l' hl'; omega
              go_wp2_with fail
              refine (bits_ErrS g l (.inl u') _ hr).mono ?_
              rintro e wa' ⟨rfl, rfl⟩
              rw [show Bts.errS (.inl u') = 0 by rfl]
              go_upto_region 22 with fail
              have hrd' : RdS (fun k => B + 1 ≤ k ∧ k < g) wr.drew g l (.inl u') := hr.keep (Below.refl _ _).drew
              have hcall := bits_RIntS g l (.inl u') wr.drew hrd' (by omega)
              have gq := Bts.go_run Bts.intP 0 (.inl u')
              have rq := Bts.int_rng (.inl u')
              obtain ⟨v, hv⟩ : ∃ z, z = (Bts.runS Bts.intP 0 (.inl u')).1 := ⟨_, rfl⟩
              obtain ⟨sv, hsv⟩ : ∃ z, z = (Bts.runS Bts.intP 0 (.inl u')).2 := ⟨_, rfl⟩
              rw [← hsv] at gq
              rw [← hv] at gq rq
              rw [← hsv, ← hv] at hcall
              have Hcall := Lib.hid hcall
              have c3 : wr.cell? ⟨s1, 3, none⟩ = some (.slice aK q cK) := by
                have := Hh.out
                simp [World.cell?, this]
              have c3d : wr.drew.cell? ⟨s1, 3, none⟩ = some (.slice aK q cK) := c3
              have hnextq : (bv (BitVec.ofNat 64 (M - q) - 1#64)) = bv (BitVec.ofNat 64 (M - (q + 1))) := by
                congr 1
                apply BitVec.eq_of_toNat_eq
                rw [BitVec.toNat_sub, BitVec.toNat_ofNat, BitVec.toNat_ofNat]
                simp only [BitVec.toNat_ofNat]
                omega
              have hbq' : bv (BitVec.ofNat 64 (M - (q + 1))) = ((M - (q + 1) : Nat) : Int) := by unfold bv; rw [BitVec.toNat_ofNat]; omega
              have Hnextq := Lib.hid hnextq
              have Hbq' := Lib.hid hbq'
              have Hstep := Lib.hid (Bts.loop_step Hmid3.out hqt gq)
              have hitem : ∀ (w10 : World), Only (· = g) wr.drew w10 →
                  (Own EInt 3 wf.heap.size (w10.alloc (.cells #[.int .i64 v] 3)) (.slice aK q cK) xs ∧ Sl EInt (fun b => some b ≠ (Value.slice aK q cK).ownBlock) (w10.alloc (.cells #[.int .i64 v] 3)) (some ⟨w10.heap.size, 0, none⟩) [v]) ∧
                  w10.heap[s1]? = some (.cells #[.int .i64 x, .int .i64 y, .int .i64 z, .slice aK q cK] 58 (0, 0)) ∧ wr.heap.size ≤ w10.heap.size := fun w10 hon => by
                have hok := Hok.out
                have h1 : Own EInt 3 wf.heap.size w10 (.slice aK q cK) xs := (hok.below (Below.refl _ _).drew : Own EInt 3 wf.heap.size wr.drew (.slice aK q cK) xs).onlyI hon fun j hj => by omega
                have hsz : wr.heap.size ≤ w10.heap.size := hon.size
                refine ⟨⟨h1.below ((Below.refl _ _).alloc (Nat.le_refl _) _), sl_one (heap_alloc_new w10 _) ⟨rfl, rq⟩ h1.fresh⟩, ?_, hsz⟩
                rw [hon.block s1 (cell_lt c3d) (by omega)]; exact Hh.out
              have Hitem := Lib.hid hitem
              have hb1 : xs.length + [v].length ≤ maxLen := by rw [Hxl.out]; unfold maxLen; simp; omega
              have hb2 : (xs.length + [v].length) * 8 ≤ 140737488355328 := by rw [Hxl.out]; simp; omega
              have Hb1 := Lib.hid hb1
              have Hb2 := Lib.hid hb2
              have hsf1 : s1 < wf.heap.size := by omega
              clear hcall hv hsv gq rq hnextq hbq' hitem hb1 hb2 hrd' hr
              go_region_law (first
                | (go_simp; go_at_call 37; refine (Hcall.out).mono ?_; rintro e w10 ⟨rfl, hr10, hon10⟩; obtain ⟨hit, hM10, hsz10⟩ := Hitem.out w10 hon10; have k10 : w10.cell? ⟨s1, 3, none⟩ = some (.slice aK q cK) := by { simp [World.cell?, hM10] }; have k10a : (w10.alloc (.cells #[.int .i64 v] 3)).cell? ⟨s1, 3, none⟩ = some (.slice aK q cK) := cell_thru k10 ((Below.refl _ _).alloc (Nat.le_refl _) _); have HM10 := Lib.hid hM10; have Hit := Lib.hid hit; have Hsz10 := Lib.hid hsz10; clear hM10 hit hsz10)
                | ((rw [if_pos (by simp [Region.wanted])]); (refine step_app (l := xs) (l2 := [v]) (base := wf.heap.size) EInt (by rfl) (by rfl) (by rfl) ti_sints Hit.out.1 rfl Hit.out.2 Hb1.out Hb2.out (by have := Hsz10.out; simp; omega) ?_; intro v11 w11 ho11 hg11 hv11 hb11; obtain ⟨a11, c11, rfl, hc11, hm11, hr11, ho11'⟩ := ho11.shape (q + 1) (by simp [Hxl.out]); have k11 : w11.cell? ⟨s1, 3, none⟩ = some (.slice aK q cK) := (hb11.cell (p := ⟨s1, 3, none⟩) hsf1).trans k10a; have kf11 : w11.frozen? ⟨s1, 3, none⟩ = false := by { rw [hb11.frozen (p := ⟨s1, 3, none⟩) hsf1, Below.frozen (B := w10.heap.size) ((Below.refl _ _).alloc (Nat.le_refl _) _) (p := ⟨s1, 3, none⟩) (cell_lt k10)]; simp [World.frozen?, HM10.out] })))
              all_goals
                have hMf : (w11.setCell ⟨s1, 3, none⟩ (.slice a11 (q + 1) c11)).heap[s1]? = some (.cells #[.int .i64 x, .int .i64 y, .int .i64 z, .slice a11 (q + 1) c11] 58 (0, 0)) := by
                  have e : w11.heap[s1]? = some (.cells #[.int .i64 x, .int .i64 y, .int .i64 z, .slice aK q cK] 58 (0, 0)) := by
                    rw [hb11.block s1 hsf1, Below.heap_alloc _ _ _ (cell_lt k10)]; exact HM10.out
                  have := heap_set e 3 (.slice a11 (q + 1) c11)
                  simpa using this
                have HMf := Lib.hid hMf
                have hOb : Only (fun p => wf.heap.size ≤ p ∨ p = s1) w10 (w11.setCell ⟨s1, 3, none⟩ (.slice a11 (q + 1) c11)) := by
                  have h1 : Only (fun p => wf.heap.size ≤ p ∨ p = s1) w10 (w10.alloc (.cells #[.int .i64 v] 3)) := Below.only ((Below.refl _ _).alloc (Nat.le_refl _) _)
                  have h2 : Only (fun p => wf.heap.size ≤ p ∨ p = s1) (w10.alloc (.cells #[.int .i64 v] 3)) w11 := ⟨hb11.os, hb11.tape, hb11.output, hb11.size, fun p hp hn => hb11.block p (by omega)⟩
                  exact (h1.trans h2 fun _ _ h => h).setCell (p := ⟨s1, 3, none⟩) (.inl (.inr rfl)) _
                have HOb := Lib.hid hOb
                have hon : Only (· = g) wr w10 := ⟨hon10.os, hon10.tape, hon10.output, hon10.size, hon10.block⟩
                have Hon := Lib.hid hon
                have hoF : Own EInt 3 wf.heap.size (w11.setCell ⟨s1, 3, none⟩ (.slice a11 (q + 1) c11)) (.slice a11 (q + 1) c11) (xs ++ [v]) :=
                  ho11'.onlyI (S := (· = s1)) (Only.setCell (S := (· = s1)) (Only.refl _ _) (p := ⟨s1, 3, none⟩) (.inl rfl) _) (fun j hj => by omega)
                have HoF := Lib.hid hoF
                have Hr10 := Lib.hid hr10
                clear hMf hOb hon hoF ho11 hg11 hv11 hr11 hr10
                go_wp2_with fail
                go_roundw
                case rel =>
                  refine ⟨q + 1, a11, c11, xs ++ [v], sv, by omega, by omega, by rw [Hnextq.out], Hr10.out.only HOb.out (by omega) (fun p hp => by omega), HoF.out, by simp [Hxl.out], HMf.out, Lib.hid ?_, Hstep⟩
                  have h1 := HOg.out.trans (Hon.out.mono (T := fun p => p = g ∨ p = s1) fun _ h => .inl h) fun _ _ h => h
                  exact h1.trans HOb.out fun p hp h => by rcases h with h | h; omega; exact .inr h
                case measure =>
                  rw [Hnextq.out]
                  show (bv (BitVec.ofNat 64 (M - (q + 1)))).toNat < (bv (BitVec.ofNat 64 (M - q))).toNat
                  rw [Hbq'.out, Hbq.out]
                  omega
            · obtain ⟨_, _, ec, hqc, hcm3, _, hok⟩ := Hlc.out
              injection ec with ec1 ec2 ec3
              subst ec1
              subst ec3
              have gst := Hfin3.out (by
                rcases Nat.lt_or_ge q M with h | h
                · cases st with
                  | inl u => exact absurd ⟨h, u, rfl⟩ hcq
                  | inr e => exact .inr ⟨e, rfl⟩
                · exact .inl (by omega))
              have Gst := Lib.hid gst
              have hq' : q = xs.length := Hxl.out.symm
              have hoo : Only (· = g) wo wr := HOf.out.trans HOg.out fun p hp h => by rcases h with h | h; exact h; omega
              have hh3 := Hh.out
              have hitem := stp_item (tt := 58) (aL := aL) (k := k) (cL := cL) (ts := ts) (aK := aK) (cK := cK) (xs := xs) Hown.out hoo (fun p hp => by omega) hszr (show wo.heap.size ≤ wf.heap.size by omega) Ra.out Rb.out Rd.out (by rw [← hq']; exact hok) (by omega) hcm3 58
              rw [← hq'] at hitem
              have Hitem := Lib.hid hitem
              have Hoo := Lib.hid hoo
              have hb1 : ts.length + [((x, y, z, xs) : Sc.Step)].length ≤ maxLen := by rw [Htl.out]; unfold maxLen; simp; omega
              have hb2 : (ts.length + [((x, y, z, xs) : Sc.Step)].length) * 48 ≤ 140737488355328 := by rw [Htl.out]; simp; omega
              have Hb1 := Lib.hid hb1
              have Hb2 := Lib.hid hb2
              have z0 : wr.cell? ⟨s1, 0, none⟩ = some (.int .i64 x) := by simp [World.cell?, hh3]
              have z1 : wr.cell? ⟨s1, 1, none⟩ = some (.int .i64 y) := by simp [World.cell?, hh3]
              have z2 : wr.cell? ⟨s1, 2, none⟩ = some (.int .i64 z) := by simp [World.cell?, hh3]
              have z3 : wr.cell? ⟨s1, 3, none⟩ = some (.slice aK q cK) := by simp [World.cell?, hh3]
              have hnext : bv (BitVec.ofNat 64 k + 1#64) = bv (BitVec.ofNat 64 (k + 1)) := by rw [BitVec.ofNat_add]
              have hbk' : bv (BitVec.ofNat 64 (k + 1)) = ((k + 1 : Nat) : Int) := by unfold bv; rw [BitVec.toNat_ofNat]; omega
              have Hnext := Lib.hid hnext
              have Hbk' := Lib.hid hbk'
              have Hstep2 := Lib.hid (Bts.loop_step Hmid.out hlt gst)
              have hszw : w8.heap.size ≤ wr.heap.size := by omega
              clear gst hoo hh3 hitem hb1 hb2 hnext hbk' hok hq' hqc hcm3
              rcases Nat.lt_or_ge q M with hqlt | hqge
              all_goals
                first
                | (have hpos : 0 < bv (BitVec.ofNat 64 (M - q)) := by rw [Hbq.out]; have : q < M := hqlt; omega
                   obtain ⟨e, hst⟩ : ∃ e, st = .inr e := by
                     cases st with
                     | inl u => exact absurd ⟨hqlt, u, rfl⟩ hcq
                     | inr e => exact ⟨e, rfl⟩
                   have he0 := hr.nz e hst
                   have he0' : (e == 0) = false := by simpa using he0
                   have herr : Bts.errS st = e := by rw [hst]; rfl
                   have Herr := Lib.hid herr
                   clear he0 herr hcq hst
                   go_wp2_with fail
                   refine (bits_ErrS g l st _ hr).mono ?_
                   rintro e9 w9' ⟨rfl, rfl⟩
                   rw [Herr.out]
                   go_upto_region 23 with fail)
                | (have hpos : ¬ (0 < bv (BitVec.ofNat 64 (M - q))) := by rw [Hbq.out]; have : M ≤ q := hqge; omega
                   clear hcq
                   go_upto_region 23 with fail)
              all_goals
                go_wp2_with (first
                  | (refine wpList_app (EIn w8.heap.size EStp) rfl rfl (by rfl) (by rfl) ti_stps Hitem.out.1 rfl Hitem.out.2 Hb1.out Hb2.out (by simp; omega) ?_; intro v11 w11 ho11 hg11 hv11 hb11))
                obtain ⟨a11, c11, rfl, hc11, hm11, hr11, ho11'⟩ := ho11.shape (k + 1) (by simp [Htl.out])
                have hO11 : Only (fun p => w8.heap.size ≤ p) wr w11 := (Below.only (S := fun p => w8.heap.size ≤ p) ((Below.refl wr.heap.size wr).alloc (Nat.le_refl _) _)).trans (T := fun p => w8.heap.size ≤ p) ⟨hb11.os, hb11.tape, hb11.output, hb11.size, fun p hp hn => hb11.block p (by omega)⟩ fun _ _ h => h
                have HO11 := Lib.hid hO11
                have Ho11 := Lib.hid ho11'
                clear ho11 hg11 hv11 hr11 hb11 hO11 ho11'
                go_wp2_with fail
                go_roundw
                case rel =>
                  refine ⟨k + 1, a11, c11, ts ++ [(x, y, z, xs)], st, by omega, by omega, rfl, by rw [Hnext.out], hr.only HO11.out (by omega) (fun p hp => by omega), Ho11.out, by simp [Htl.out], Lib.hid ?_, Hstep2⟩
                  exact (HO.out.trans Hoo.out fun _ _ h => h).trans HO11.out fun p hp h => absurd h (by omega)
                case measure =>
                  rw [Hnext.out]
                  show N - (bv (BitVec.ofNat 64 (k + 1))).toNat < N - (bv (BitVec.ofNat 64 k)).toNat
                  rw [Hbk'.out, Hbk.out]
                  omega
        · have hgoT := Hfin.out (by
            rcases Nat.lt_or_ge k N with h | h
            · cases st with
              | inl u => exact absurd ⟨h, u, rfl⟩ hcond
              | inr e => exact .inr ⟨e, rfl⟩
            · exact .inl (by omega))
          have hall := Bts.go_all (l := Bts.bitsOf l) (by rw [← Hs0.out]; exact Sc.go_dec HgoC.out HgoN.out hgoT) hr.nz
          have Hall := Lib.hid hall
          have hM : wo.heap[F]? = some (.cells (confCells cc) 26 (0, 0)) := by rw [HO.out.block F (by omega) (by omega)]; exact HM8.out
          have hBz : wo.heap[B]? = some (.cells zeroConf 26 (0, 0)) := by
            rw [HO.out.block B (by omega) (by omega), HO8.out.block B (by omega) (by omega)]; exact HB6.out
          have hbw : Below B w wo := (Hbw6.out.trans (HO8.out.below (by omega) fun q hq => by omega)).trans (HO.out.below (by omega) fun q hq => by omega)
          have hLs : Sl EStp (fun b => w8.heap.size ≤ b) wo aL ts := Hown.out.sl_in (Nat.le_refl _) (Nat.le_refl _)
          obtain ⟨_, _, e9, hkc, hcm9, _, _⟩ := Hown.out.shape k Htl.out.symm
          injection e9 with e91 e92 e93
          subst e91
          subst e93
          have HMo := Lib.hid hM
          have HBz := Lib.hid hBz
          have Hbw := Lib.hid hbw
          have HLs := Lib.hid hLs
          clear hgoT hall hM hBz hbw hLs e92
          rcases Nat.lt_or_ge k N with hlt | hge
          all_goals
            first
            | (have hlt' : bv (BitVec.ofNat 64 k) < bv n := by rw [Hbk.out, Hbn.out]; have : k < N := hlt; omega
               obtain ⟨e, hst⟩ : ∃ e, st = .inr e := by
                 cases st with
                 | inl u => exact absurd ⟨hlt, u, rfl⟩ hcond
                 | inr e => exact ⟨e, rfl⟩
               have he0 := hr.nz e hst
               have he0' : (e == 0) = false := by simpa using he0
               have herr : Bts.errS st = e := by rw [hst]; rfl
               have Herr := Lib.hid herr
               clear he0 herr hcond hst
               go_wp2_with fail
               refine (bits_ErrS g l st _ hr).mono ?_
               rintro e9 w9' ⟨rfl, rfl⟩
               rw [Herr.out]
               go_upto_region 24 with fail)
            | (have hge' : ¬ (bv (BitVec.ofNat 64 k) < bv n) := by rw [Hbk.out, Hbn.out]; have : N ≤ k := hge; omega
               clear hcond
               go_upto_region 24 with fail)
          all_goals
            go_wp2_with fail
            refine (bits_EndS g l st _ hr (by omega)).mono ?_
            rintro e12 w12 ⟨rfl, hb12⟩
            have hM12 : w12.heap[F]? = some (.cells (confCells cc) 26 (0, 0)) := by rw [hb12.block F (by omega)]; exact HMo.out
            have hB12 : w12.heap[B]? = some (.cells zeroConf 26 (0, 0)) := by rw [hb12.block B (by omega)]; exact HBz.out
            have hbw12 : Below B w w12 := Hbw.out.trans (hb12.mono (by omega))
            have hL12 : Sl EStp (fun b => B < b) w12 aL ts := HLs.out.mono (by decide) fun q hq hlt => ⟨hb12.block q hlt, by omega⟩
            have hs12 := hb12.size
            have hbz := Hall.out
            have HM12 := Lib.hid hM12
            have HB12 := Lib.hid hB12
            have Hbw12 := Lib.hid hbw12
            have HL12 := Lib.hid hL12
            clear hM12 hB12 hb12 hbw12 hL12 hr
            obtain ⟨z, hz⟩ : ∃ z, z = Bts.endS st := ⟨_, rfl⟩
            rw [← hz] at hbz ⊢
            clear hz
            rcases hbz with ⟨rfl, hall⟩ | ⟨hz0, hall⟩
            · have hRx : R = (cc, ts, 0) := by rw [HR.out]; unfold Sc.dec; rw [hall]
              have HRx := Lib.hid hRx
              clear hRx hall
              go_wp2_with (first
                | (refine wpList_loadRow rfl _ _ rfl F rfl (confCells cc) _ (0, 0) _ HM12.out Tryd.underlying26 rfl (conf_size _) ?_)
                | (refine wpList_storeRow rfl _ _ _ rfl B rfl zeroConf (confCells cc) rfl _ HB12.out (conf_size _) rfl (conf_one _) ?_))
              refine bodyPost_ret (v := .tuple #[.agg (confCells cc), .slice aL k cL, .int .i64 0]) ?_ rfl ?_
              · rw [results_cell3 (P := Tryd.prog) Tryd.results17 _ _ B 26 (confCells cc) (0, 0) _ rfl (setRow_at HB12.out) Tryd.underlying26 rfl (conf_size _)]
                rfl
              · rw [HRx.out]
                have hrow := setRow_only w12 B (confCells cc)
                refine ⟨aL, cL, by rw [Htl.out], by rw [Htl.out]; exact hkc, hcm9, ?_, Hbw12.out.trans (setRow_below _ (by omega) (Nat.le_refl _))⟩
                exact HL12.out.mono (by decide) fun q hq hlt => ⟨hrow.block q hlt (by omega), by omega⟩
            · have hRx : R = (Sc.zeroC, [], z) := by rw [HR.out]; unfold Sc.dec; rw [hall]
              have hz0' : (z != 0) = true := by simpa using hz0
              have HRx := Lib.hid hRx
              clear hRx hall hz0
              go_wp2_with (first | (refine wpList_storeRow rfl _ _ _ rfl B rfl zeroConf zeroConf rfl _ HB12.out (conf_size _) rfl (conf_one _) ?_))
              refine bodyPost_ret (v := .tuple #[.agg zeroConf, .slice none 0 0, .int .i64 z]) ?_ rfl ?_
              · rw [results_cell3 (P := Tryd.prog) Tryd.results17 _ _ B 26 zeroConf (0, 0) _ rfl (setRow_at HB12.out) Tryd.underlying26 rfl (conf_size _)]
                rfl
              · rw [HRx.out]
                exact ⟨none, 0, rfl, Nat.le_refl _, Nat.zero_le _, Sl.nil _ _ _ _, Hbw12.out.trans (setRow_below _ (by omega) (Nat.le_refl _))⟩
end Go.Proofs.YtdpopdgeipgheaaDoor


/-
  The reference's disk: one step: the loss of power.
-/
import Derived.Test.YtennjoegjghlaaaDiskDoA
import Derived.Deep.CutBlock
namespace Go.Proofs.Ytennjoegjghlaaa
open Go.RowKit
set_option linter.unusedVariables false

namespace Dk
theorem crash_now (x : Tp) (kp : Int) (hf : x.fresh = true → x.safe = 0) (hs : x.safe ≤ x.b.length) (hn : ¬ (x.fresh = true ∧ kp < 0)) (q : Nat) (hq : (q : Int) = min (max kp 0) ((rmore x).length : Int)) :
    (if x.fresh = true then [] else rsafe x) ++ (rmore x).take q = crashB x kp := by
  unfold crashB
  rw [if_neg hn]
  by_cases h : x.fresh = true
  · have h0 := hf h
    have e : rmore x = x.b := by unfold rmore; rw [if_pos h]
    rw [if_pos h, e, List.nil_append]
    rw [e] at hq
    congr 1
    omega
  · have e : rmore x = x.b.drop x.safe := by unfold rmore; rw [if_neg h]
    have e2 : rsafe x = x.b.take x.safe := by unfold rsafe; rw [if_neg h]
    rw [if_neg h, e, e2]
    rw [e, List.length_drop] at hq
    rw [show ((x.safe : Int) + min (max kp 0) ((x.b.length : Int) - (x.safe : Int))).toNat = x.safe + q by omega]
    rw [List.take_add]
theorem crash_old (x : Tp) (kp : Int) (h : x.fresh = true) (hk : kp < 0) : rsafe x = crashB x kp := by
  unfold crashB rsafe
  rw [if_pos h, if_pos ⟨h, hk⟩]
theorem rsafe_crash (x : Tp) (kp : Int) : rsafe (crashT x kp) = crashB x kp := by
  unfold rsafe crashT
  simp
theorem rmore_crash (x : Tp) (kp : Int) : rmore (crashT x kp) = [] := by
  unfold rmore crashT
  simp
theorem rmore_len (x : Tp) (n : Nat) (h : x.b.length ≤ n) : (rmore x).length ≤ n := by
  unfold rmore
  split
  · exact h
  · rw [List.length_drop]; omega
theorem rsafe_len (x : Tp) (n : Nat) (h : x.b.length ≤ n) (h2 : x.old.length ≤ n) : (rsafe x).length ≤ n := by
  unfold rsafe
  split
  · exact h2
  · rw [List.length_take]; omega
end Dk

/-- one tape behind the loss of power -/
theorem crash_step {ok : Nat → Prop} {w wx : World} {s : Nat} {O : Array Value} {vs us : Nat → Value} {D : Dk.Dsk} {ks : List Int} {k : Nat} (hk : k < 4) {v : Value}
    (hD : DoM w wx s (Dk.rcells vs us (Dk.crashK D ks k)) O) (hM : RfM (okx ok s) wx vs us (Dk.crashK D ks k)) (hv : Bt (okx ok s) wx v (Dk.crashB (D.t k) (ks.getD k 0))) :
    DoM w (((wx.setCell ⟨s, k * 3, none⟩ v).setCell ⟨s, k * 3 + 1, none⟩ (.bool false)).setCell ⟨s, k * 3 + 2, none⟩ (.slice none 0 0)) s (Dk.rcells (Dk.upd vs k v) (Dk.upd us k (.slice none 0 0)) (Dk.crashK D ks (k + 1))) O ∧
    RfM (okx ok s) (((wx.setCell ⟨s, k * 3, none⟩ v).setCell ⟨s, k * 3 + 1, none⟩ (.bool false)).setCell ⟨s, k * 3 + 2, none⟩ (.slice none 0 0)) (Dk.upd vs k v) (Dk.upd us k (.slice none 0 0)) (Dk.crashK D ks (k + 1)) := by
  have h1 := ((hD.set (k * 3) v).set (k * 3 + 1) (.bool false)).set (k * 3 + 2) (.slice none 0 0)
  rw [Dk.rset_s hk, Dk.rset_c hk, Dk.rset_m hk] at h1
  have e : ∀ i, (Dk.crashK D ks (k + 1)).t i = if i = k then Dk.crashT (D.t k) (ks.getD k 0) else (Dk.crashK D ks k).t i := fun i => by
    rw [Dk.crashK_succ]
    simp only [Dk.setT, Dk.upd]
  have h2 : Dk.rcells (Dk.upd vs k v) (Dk.upd us k (.slice none 0 0)) (Dk.setT (Dk.crashK D ks k) k { (Dk.crashK D ks k).t k with fresh := false }) = Dk.rcells (Dk.upd vs k v) (Dk.upd us k (.slice none 0 0)) (Dk.crashK D ks (k + 1)) := by
    refine Dk.rcells_congr (fun _ _ => rfl) (fun _ _ => rfl) (fun i hi => ?_) rfl rfl rfl rfl
    rw [e]
    by_cases hik : i = k
    · subst hik; rw [if_pos rfl]; simp only [Dk.setT, Dk.upd_same]; rfl
    · rw [if_neg hik]; simp only [Dk.setT, Dk.upd_other _ _ _ _ hik]
  rw [h2] at h1
  refine ⟨h1, ?_⟩
  have h3 := ((hM.set0 (k * 3) v).set0 (k * 3 + 1) (.bool false)).set0 (k * 3 + 2) (.slice none 0 0)
  have hvv : Bt (okx ok s) (((wx.setCell ⟨s, k * 3, none⟩ v).setCell ⟨s, k * 3 + 1, none⟩ (.bool false)).setCell ⟨s, k * 3 + 2, none⟩ (.slice none 0 0)) v (Dk.crashB (D.t k) (ks.getD k 0)) := by
    have ho : Only (· = s) wx (((wx.setCell ⟨s, k * 3, none⟩ v).setCell ⟨s, k * 3 + 1, none⟩ (.bool false)).setCell ⟨s, k * 3 + 2, none⟩ (.slice none 0 0)) :=
      ((Only.setCell (S := (· = s)) (Only.refl _ wx) (p := ⟨s, k * 3, none⟩) (.inl rfl) _).setCell (p := ⟨s, k * 3 + 1, none⟩) (.inl rfl) _).setCell (p := ⟨s, k * 3 + 2, none⟩) (.inl rfl) _
    exact hv.mono fun q hq hlt => ⟨ho.block q hlt (by rcases hq with h | h <;> omega), hq⟩
  refine ⟨fun i hi => ?_, fun i hi => ?_⟩ <;> (rw [e]; by_cases hik : i = k)
  · subst hik; rw [if_pos rfl, Dk.upd_same, Dk.rsafe_crash]; exact hvv
  · rw [if_neg hik, Dk.upd_other _ _ _ _ hik]; exact h3.sa i hi
  · subst hik; rw [if_pos rfl, Dk.upd_same, Dk.rmore_crash]; exact Bt.nil _ _
  · rw [if_neg hik, Dk.upd_other _ _ _ _ hik]; exact h3.mo i hi

set_option maxRecDepth 100000 in
set_option maxHeartbeats 6400000 in
theorem ref16_Do_crash {ok : Nat → Prop} (D : Dk.Dsk) (vs us : Nat → Value) (tt nn : Int) (aB : Option Addr) (cB : Nat) (bs : List (BitVec 8)) (aK : Option Addr) (cK : Nat) (ks : List Int) (w : World)
    (hM : RfM ok w vs us D) (hok : Dk.Ok D) (hfr : Dk.Fr D)
    (hsB : Sl EU8 (fun _ => True) w aB bs) (hsK : Sl EInt (fun _ => True) w aK ks) (hlK : ks.length ≤ 1000) :
    Calls Try.prog 28 #[.agg (Dk.rcells vs us D), .agg #[.int .i64 5, .int .i64 tt, .int .i64 nn, .slice aB bs.length cB, .slice aK ks.length cK]] w (DoPost ok w D (5, tt, nn, bs, ks)) := by
  obtain ⟨s, hs⟩ : ∃ s, s = w.heap.size := ⟨_, rfl⟩
  obtain ⟨C, hC⟩ : ∃ C, C = Dk.rcells vs us D := ⟨_, rfl⟩
  obtain ⟨O, hO⟩ : ∃ O : Array Value, O = #[.int .i64 5, .int .i64 tt, .int .i64 nn, .slice aB bs.length cB, .slice aK ks.length cK] := ⟨_, rfl⟩
  rw [← hC, ← hO]
  obtain ⟨w1, hw1⟩ : ∃ x, x = ((w.alloc (.cells C 52)).alloc (.cells O 45)).alloc (.cells zrow 52) := ⟨_, rfl⟩
  have hDo := do_mem w s hs C O w1 hw1
  have Hs := Lib.hid hs
  have HC := Lib.hid hC
  have HO := Lib.hid hO
  have Hw1 := Lib.hid hw1
  clear hs hC hO hw1
  go_enter Try.func28, Try.ntmps28
  go_upto_region 1 with fail
  rw [show (#[.slice none 0 0, .bool false, .slice none 0 0, .slice none 0 0, .bool false, .slice none 0 0, .slice none 0 0, .bool false, .slice none 0 0, .slice none 0 0, .bool false, .slice none 0 0, .int .i64 0, .int .i64 0, .int .i64 0, .bool false] : Array Value) = zrow from rfl, ← Hw1.out, ← Hs.out]
  clear Hw1
  have hM1 : RfM (okx ok s) w1 vs us D := hM.mono fun k hk hlt => ⟨hDo.below.block k (by rw [Hs.out]; exact hlt), .inl ⟨hk, by rw [Hs.out]; exact hlt⟩⟩
  have hDo' := hDo
  rw [HO.out] at hDo'
  obtain ⟨o0, o1, o2, o3, o4⟩ := hDo'.sure
  have hd1 := hDo
  rw [HC.out] at hd1
  have hfinal : ∀ (wx : World) (vs' us' : Nat → Value) (D' : Dk.Dsk) (T : Array Value), DoM w wx s (Dk.rcells vs' us' D') O → RfM (okx ok s) wx vs' us' D' → Dk.dstep D (5, tt, nn, bs, ks) = (D', [], 0) →
      T.getD 4 undef = .pointer (some ⟨s + 1 + 1, 0, none⟩) → T.getD 5 undef = .slice none 0 0 → T.getD 6 undef = .int .i64 0 →
      bodyPost Try.prog Try.f28 (DoPost ok w D (5, tt, nn, bs, ks)) Exit.ret { tmps := T, defers := [] } (wx.setRow (s + 1 + 1) (Dk.rcells vs' us' D')) := by
    intro wx vs' us' D' T hDx hMx hst h4 h5 h6
    obtain ⟨hhz, hbz⟩ := hDx.done
    have hcs : (Try.prog.info? 52).map (·.size) = some (Dk.rcells vs' us' D').size := by rw [show (Dk.rcells vs' us' D').size = 16 from rfl]; kernel_rfl
    have hO : ∀ k, k ≠ s + 1 + 1 → (wx.setRow (s + 1 + 1) (Dk.rcells vs' us' D')).heap[k]? = wx.heap[k]? := fun k hk => setRow_other wx (s + 1 + 1) k _ hk
    refine bodyPost_ret (v := .tuple #[.agg (Dk.rcells vs' us' D'), .slice none 0 0, .int .i64 0]) ?_ rfl ?_
    · rw [results_cell3 (P := Try.prog) Try.results28 T _ (s + 1 + 1) 52 _ (0, 0) _ h4 hhz Try.underlying52 rfl hcs, h5, h6]
    · refine ⟨vs', us', .slice none 0 0, by rw [hst], ?_, ?_, ?_⟩
      · rw [hst]
        exact hMx.mono fun k hk hlt => ⟨hO k (by rcases hk with h | h <;> omega), by rcases hk with h | h; exact .inl h.1; exact .inr (by have := Hs.out; omega)⟩
      · rw [hst]
        exact Bt.nil _ _
      · rw [← Hs.out]; exact hbz
  have Hfinal := Lib.hid hfinal
  have h16 : ∀ (vs' us' : Nat → Value) (D' : Dk.Dsk), (Try.prog.info? 52).map (·.size) = some (Dk.rcells vs' us' D').size := fun vs' us' D' => by rw [show (Dk.rcells vs' us' D').size = 16 from rfl]; kernel_rfl
  have H16 := Lib.hid h16
  have HD1 := Lib.hid hd1
  have HM1 := Lib.hid hM1
  have HsK := Lib.hid hsK
  clear hfinal h16 hDo hDo' hd1 hM1 hM hsK hsB o1 o2 o3 o4
  go_wp2_with fail
  go_loopw [7] (fun i wr => ∃ (k : Nat) (vs' us' : Nat → Value), k ≤ 4 ∧ i = .int .i64 k ∧ DoM w wr s (Dk.rcells vs' us' (Dk.crashK D ks k)) O ∧ RfM (okx ok s) wr vs' us' (Dk.crashK D ks k)) (fun i _ => 4 - (intOf i).toNat)
  case atStart => exact ⟨0, vs, us, Nat.zero_le _, rfl, by rw [Dk.crashK_zero]; exact HD1.out, by rw [Dk.crashK_zero]; exact HM1.out⟩
  case round =>
    clear o0
    obtain ⟨k, vs', us', hk, rfl, hD, hM⟩ := hrel
    by_cases hlt : k < 4
    · have hki : (k : Int) < 4 := by omega
      have i0 : (0 : Int) ≤ (k : Int) := by omega
      obtain ⟨x, hx⟩ : ∃ x, x = D.t k := ⟨_, rfl⟩
      obtain ⟨kp, hkp⟩ : ∃ z, z = ks.getD k 0 := ⟨_, rfl⟩
      have hsa := hM.sa k hlt
      have hmo := hM.mo k hlt
      rw [Dk.crashK_get, ← hx] at hsa hmo
      obtain ⟨a0, c0, e0, hc0, hm0, hs0⟩ := hsa
      obtain ⟨a2, c2, e2, hc2, hm2, hs2⟩ := hmo
      have hxl : x.b.length ≤ 4194304 := by have h1 := hok.len k; have h2 := hok.room1; rw [← hx] at h1; omega
      have hxo : x.old.length ≤ 4194304 := by have h1 := hok.old k; have h2 := hok.room1; rw [← hx] at h1; omega
      have hsf : x.safe ≤ x.b.length := by rw [hx]; exact hok.safe k
      have hfx : x.fresh = true → x.safe = 0 := by rw [hx]; exact hfr k
      have hlsl := Dk.rsafe_len x 4194304 hxl hxo
      have hlml := Dk.rmore_len x 4194304 hxl
      obtain ⟨ls, hls⟩ : ∃ l, l = Dk.rsafe x := ⟨_, rfl⟩
      obtain ⟨lm, hlm⟩ : ∃ l, l = Dk.rmore x := ⟨_, rfl⟩
      have hnowl := Dk.crash_now x kp hfx hsf
      have holdl := Dk.crash_old x kp
      rw [← hlm, ← hls] at hnowl
      rw [← hls] at hs0 hc0 e0 hlsl holdl
      rw [← hlm] at hs2 hc2 e2 hlml
      have r0 : wr.cell? ⟨s, k * 3, none⟩ = some (.slice a0 ls.length c0) := by simp [World.cell?, hD.d, Dk.rget_s hlt, e0]
      have r1 : wr.cell? ⟨s, k * 3 + 1, none⟩ = some (.bool x.fresh) := by simp [World.cell?, hD.d, Dk.rget_c hlt, hx, Dk.crashK_get]
      have r2 : wr.cell? ⟨s, k * 3 + 2, none⟩ = some (.slice a2 lm.length c2) := by simp [World.cell?, hD.d, Dk.rget_m hlt, e2]
      have hDo := hD
      rw [HO.out] at hDo
      obtain ⟨_, _, _, _, y4⟩ := hDo.sure
      have hsr : Sl EInt (fun _ => True) wr aK ks := HsK.out.below (by decide) (by rw [← Hs.out]; exact hD.below)
      obtain ⟨w2, hw2⟩ : ∃ y, y = wr.alloc (.cells #[.slice a0 ls.length c0, .bool x.fresh, .slice a2 lm.length c2] 49) := ⟨_, rfl⟩
      obtain ⟨p, hp⟩ : ∃ p, p = wr.heap.size := ⟨_, rfl⟩
      have hb2 : Below p wr w2 := by rw [hw2, hp]; exact alloc_below _ _
      have hh2 : w2.heap[p]? = some (.cells #[.slice a0 ls.length c0, .bool x.fresh, .slice a2 lm.length c2] 49 (0, 0)) := by rw [hw2, hp]; exact heap_alloc_new _ _
      have hps : s + 3 ≤ p := by rw [hp]; exact hD.size
      have hb2' : Below wr.heap.size wr w2 := by rw [← hp]; exact hb2
      have p0 : w2.cell? ⟨p, 0, none⟩ = some (.slice a0 ls.length c0) := by simp [World.cell?, hh2]
      have p1 : w2.cell? ⟨p, 1, none⟩ = some (.bool x.fresh) := by simp [World.cell?, hh2]
      have p2 : w2.cell? ⟨p, 2, none⟩ = some (.slice a2 lm.length c2) := by simp [World.cell?, hh2]
      have pf : ∀ o, w2.frozen? ⟨p, o, none⟩ = false := fun o => by simp [World.frozen?, hh2]
      have zf0 : ∀ o, wr.frozen? ⟨s, o, none⟩ = false := fun o => by simp [World.frozen?, hD.d]
      have hsw : s < wr.heap.size := cell_lt r0
      have zf : ∀ o, w2.frozen? ⟨s, o, none⟩ = false := fun o => (hb2'.frozen (p := ⟨s, o, none⟩) hsw).trans (zf0 o)
      have z0 := cell_thru r0 hb2'
      have z1 := cell_thru r1 hb2'
      have z2 := cell_thru r2 hb2'
      have z4 := cell_thru y4 hb2'
      have hsr2 : Sl EInt (fun _ => True) w2 aK ks := hsr.below (by decide) hb2'
      have HD := Lib.hid hD
      have HM := Lib.hid hM
      have Hx := Lib.hid hx
      have Hkp := Lib.hid hkp
      have Hls := Lib.hid hls
      have Hlm := Lib.hid hlm
      have Hw2 := Lib.hid hw2
      have Hp := Lib.hid hp
      have Hb2 := Lib.hid hb2
      have He0 := Lib.hid e0
      have He2 := Lib.hid e2
      have Hs0 := Lib.hid hs0
      have Hs2 := Lib.hid hs2
      have Hh2 := Lib.hid hh2
      have Hnowl := Lib.hid hnowl
      have Holdl := Lib.hid holdl
      have Hfx := Lib.hid hfx
      have Hsr2 := Lib.hid hsr2
      have hend : ∀ (wx : World) (v : Value), Below p wr wx → Bt (okx ok s) wx v (Dk.crashB (D.t k) (ks.getD k 0)) → DoM w (((wx.setCell ⟨s, k * 3, none⟩ v).setCell ⟨s, k * 3 + 1, none⟩ (.bool false)).setCell ⟨s, k * 3 + 2, none⟩ (.slice none 0 0)) s (Dk.rcells (Dk.upd vs' k v) (Dk.upd us' k (.slice none 0 0)) (Dk.crashK D ks (k + 1))) O ∧
          RfM (okx ok s) (((wx.setCell ⟨s, k * 3, none⟩ v).setCell ⟨s, k * 3 + 1, none⟩ (.bool false)).setCell ⟨s, k * 3 + 2, none⟩ (.slice none 0 0)) (Dk.upd vs' k v) (Dk.upd us' k (.slice none 0 0)) (Dk.crashK D ks (k + 1)) := fun wx v hb hv => by
        rw [Hp.out] at hb
        exact crash_step hlt (HD.out.keep hb) (HM.out.mono fun q hq hl => ⟨hb.block q hl, hq⟩) hv
      have Hend := Lib.hid hend
      clear hD hM hx hkp hls hlm hw2 hp hb2 hb2' e0 e2 hs0 hs2 hh2 hDo y4 hsr hsr2 zf0 hnowl holdl hfx hend
      go_upto_region 13 with fail
      rw [← Hw2.out, ← Hp.out]
      clear r0 r1 r2
      go_upto_if 39 with fail
      go_cut [9] (fun sv wx => sv = .int .i64 kp ∧ wx = w2)
      case first =>
        by_cases hkl : k < ks.length
        · have hkl' : (k : Int) < (ks.length : Int) := by omega
          obtain ⟨b1, o1, hae, hc1, _⟩ := sl_int Hsr2.out k hkl
          have hz : ks[k] = kp := by rw [Hkp.out, List.getD_eq_getElem?_getD, List.getElem?_eq_getElem hkl]; rfl
          rw [hz] at hc1
          subst hae
          clear hz
          go_wp2_with fail
          go_meet
          exact ⟨rfl, rfl⟩
        · have hkl' : ¬ ((k : Int) < (ks.length : Int)) := by omega
          have hz : kp = 0 := by rw [Hkp.out, List.getD_eq_getElem?_getD, List.getElem?_eq_none (by omega)]; rfl
          subst hz
          go_wp2_with fail
          go_meet
          exact ⟨rfl, rfl⟩
      obtain ⟨h9, hwc⟩ := hcut
      have hkr : -9223372036854775808 ≤ kp ∧ kp ≤ 9223372036854775807 := by
        by_cases hkl : k < ks.length
        · obtain ⟨_, _, _, _, h1⟩ := sl_int Hsr2.out k hkl
          rw [Hkp.out, List.getD_eq_getElem?_getD, List.getElem?_eq_getElem hkl]; exact h1
        · rw [Hkp.out, List.getD_eq_getElem?_getD, List.getElem?_eq_none (by omega)]; exact ⟨by decide, by decide⟩
      subst h9
      obtain ⟨wy, hwy⟩ : ∃ x, x = wc := ⟨_, rfl⟩
      subst hwy
      rw [hwc]
      clear hwc z4
      by_cases hf : x.fresh = true ∧ kp < 0
      · obtain ⟨hf, hk0⟩ := hf
        have hk0' : decide (kp < 0) = true := by simpa using hk0
        have hv : Bt (okx ok s) w2 (.slice a0 ls.length c0) (Dk.crashB (D.t k) (ks.getD k 0)) := by
          have e := Holdl.out hf hk0
          rw [Hx.out, Hkp.out] at e
          rw [← e]
          exact ⟨a0, c0, rfl, hc0, hm0, Hs0.out.mono (by decide) fun q hq hl => ⟨Hb2.out.block q (by rw [Hp.out]; exact hl), hq⟩⟩
        have Hst := Lib.hid (Hend.out w2 _ Hb2.out hv)
        rw [hf] at p1
        clear hf hk0 hv
        go_wp2_with fail
        go_roundw
        case rel => exact ⟨k + 1, _, _, by omega, by go_num, Hst.out.1, Hst.out.2⟩
        case measure => simp [intOf]; omega
      · go_upto_region 16 with fail
        have Hf := Lib.hid hf
        clear hf
        go_cut [50] (fun b wx => b = .bool false ∧ wx = w2)
        case first =>
          cases hfc : x.fresh
          · rw [hfc] at p1
            clear hfc
            go_wp2_with fail
            go_meet
            exact ⟨rfl, rfl⟩
          · rw [hfc] at p1
            have hk0' : decide (kp < 0) = false := by
              have := Hf.out
              rw [hfc] at this
              simpa using this
            clear hfc
            go_wp2_with fail
            go_meet
            exact ⟨rfl, rfl⟩
        obtain ⟨h50, hwc⟩ := hcut
        subst h50
        obtain ⟨wy, hwy⟩ : ∃ x, x = wc := ⟨_, rfl⟩
        subst hwy
        rw [hwc]
        clear hwc
        obtain ⟨k1, hk1⟩ : ∃ z, z = max kp 0 := ⟨_, rfl⟩
        have Hk1 := Lib.hid hk1
        have k10 : 0 ≤ k1 := by omega
        clear hk1
        go_upto_if 58 with fail
        go_cut [9] (fun sv wx => sv = .int .i64 k1 ∧ wx = w2)
        case first =>
          by_cases hk0 : kp < 0
          · have hk0' : decide (kp < 0) = true := by simpa using hk0
            go_wp2_with fail
            go_meet
            exact ⟨by rw [show k1 = 0 by have := Hk1.out; simp at hk0'; omega], rfl⟩
          · have hk0' : decide (kp < 0) = false := by simpa using hk0
            go_wp2_with fail
            go_meet
            exact ⟨by rw [show k1 = kp by have := Hk1.out; simp at hk0'; omega], rfl⟩
        obtain ⟨h9, hwc⟩ := hcut
        subst h9
        obtain ⟨wy, hwy⟩ : ∃ x, x = wc := ⟨_, rfl⟩
        subst hwy
        rw [hwc]
        clear hwc
        obtain ⟨q, hq⟩ : ∃ q : Nat, (q : Int) = min k1 (lm.length : Int) := ⟨(min k1 (lm.length : Int)).toNat, by omega⟩
        have Hq := Lib.hid hq
        have hqc : (q : Int) ≤ (c2 : Int) := by omega
        have hq0 : (0 : Int) ≤ (q : Int) := by omega
        have hql : q ≤ lm.length := by omega
        clear hq
        go_upto_if 63 with fail
        go_cut [9] (fun sv wx => sv = .int .i64 (q : Int) ∧ wx = w2)
        case first =>
          by_cases hk0 : (lm.length : Int) < k1
          · have hk0' : decide ((lm.length : Int) < k1) = true := by simpa using hk0
            have e : (q : Int) = (lm.length : Int) := by have := Hq.out; omega
            have He := Lib.hid e
            clear e
            go_wp2_with fail
            go_meet
            exact ⟨by rw [He.out], rfl⟩
          · have hk0' : decide ((lm.length : Int) < k1) = false := by simpa using hk0
            have e : (q : Int) = k1 := by have := Hq.out; omega
            have He := Lib.hid e
            clear e
            go_wp2_with fail
            go_meet
            exact ⟨by rw [He.out], rfl⟩
        obtain ⟨h9, hwc⟩ := hcut
        subst h9
        obtain ⟨wy, hwy⟩ : ∃ x, x = wc := ⟨_, rfl⟩
        subst hwy
        rw [hwc]
        clear hwc
        have hl1 := Hnowl.out Hf.out q (by have := Hq.out; have := Hk1.out; omega)
        obtain ⟨l1, hl1'⟩ : ∃ l, l = (if x.fresh = true then [] else ls) ++ lm.take q := ⟨_, rfl⟩
        rw [← hl1'] at hl1
        have hb3 : Below p wr (w2.setCell ⟨p, 2, none⟩ (.slice a2 q c2)) := Hb2.out.setCell (p := ⟨p, 2, none⟩) (Nat.le_refl _) _
        have hnow := ref16_Now a0 ls.length c0 ls x.fresh a2 q c2 (lm.take q) _ (w2.setCell ⟨p, 2, none⟩ (.slice a2 q c2)) rfl
          ⟨rfl, Hs0.out.mono (by decide) fun y hy hl => ⟨hb3.block y (by rw [Hp.out]; exact hl), trivial⟩⟩
          (RB.take (Hs2.out.mono (ok' := fun _ => True) (by decide) fun y hy hl => ⟨hb3.block y (by rw [Hp.out]; exact hl), trivial⟩) hql) (by omega) (by omega)
        rw [← hl1'] at hnow
        obtain ⟨n1, hn1⟩ : ∃ n, n = l1.length := ⟨_, rfl⟩

        have Hnow := Lib.hid hnow
        have Hl1 := Lib.hid hl1
        have Hl1' := Lib.hid hl1'
        have Hb3 := Lib.hid hb3
        have Hn1 := Lib.hid hn1
        clear hl1 hl1' hb3 hnow hn1
        go_wp2_with fail
        refine (Hnow.out).mono ?_
        rintro e w5 ⟨v5, rfl, ho5, hb5⟩
        obtain ⟨a5, c5, rfl, hc5, hm5, hr5, ho5'⟩ := ho5.shape n1 Hn1.out
        have hb3p : p ≤ (w2.setCell ⟨p, 2, none⟩ (.slice a2 q c2)).heap.size := by have := Hb3.out.size; rw [← Hp.out] at this; exact this
        have hb35 : Below p wr w5 := Hb3.out.trans (hb5.mono hb3p)
        have hbs : w5.heap[s]? = w2.heap[s]? := (hb35.block s (by omega)).trans (Hb2.out.block s (by omega)).symm
        have zz0 := (cell_keep (o := k * 3) hbs).trans z0
        have zz1 := (cell_keep (o := k * 3 + 1) hbs).trans z1
        have zz2 := (cell_keep (o := k * 3 + 2) hbs).trans z2
        have zzf : ∀ o, w5.frozen? ⟨s, o, none⟩ = false := fun o => by have := zf o; simp only [World.frozen?] at this ⊢; rw [hbs]; exact this
        have hv : Bt (okx ok s) w5 (.slice a5 n1 c5) (Dk.crashB (D.t k) (ks.getD k 0)) := by
          have e := Hl1.out
          rw [Hx.out, Hkp.out] at e
          rw [← e]
          exact ho5'.bt.mono fun y hy hl => ⟨rfl, .inr (by omega)⟩
        have Hst := Lib.hid (Hend.out w5 _ hb35 hv)
        clear hv ho5 ho5' hr5 hb5 hb3p hb35 hbs z0 z1 z2 zf p0 p1 p2 pf
        go_wp2_with fail
        go_roundw
        case rel => exact ⟨k + 1, _, _, by omega, by go_num, Hst.out.1, Hst.out.2⟩
        case measure => simp [intOf]; omega
    · obtain rfl : k = 4 := by omega
      have hki : ¬ (((4 : Nat) : Int) < 4) := by omega
      obtain ⟨wo, rfl⟩ : ∃ x : World, x = wr := ⟨_, rfl⟩
      have hset := (hD.set 14 (.int .i64 0)).set 15 (.bool false)
      rw [Dk.rset_fuse, Dk.rset_down] at hset
      have hcg : ∀ i, i < 4 → (Dk.crashK D ks 4).t i = (Dk.crash D ks).t i := fun i hi => by
        show (if i < 4 then Dk.crashT (D.t i) (ks.getD i 0) else D.t i) = Dk.crashT (D.t i) (ks.getD i 0)
        rw [if_pos hi]
      have hcc : Dk.rcells vs' us' { { Dk.crashK D ks 4 with fuse := 0 } with down := false } = Dk.rcells vs' us' (Dk.crash D ks) :=
        Dk.rcells_congr (fun _ _ => rfl) (fun _ _ => rfl) (fun i hi => congrArg Dk.Tp.fresh (hcg i hi)) rfl rfl rfl rfl
      rw [show ({ room := (Dk.crashK D ks 4).room, acts := (Dk.crashK D ks 4).acts, t := (Dk.crashK D ks 4).t, fuse := 0, down := false } : Dk.Dsk) = { { Dk.crashK D ks 4 with fuse := 0 } with down := false } from rfl, hcc] at hset
      have hrm0 := (hM.set0 14 (.int .i64 0)).set0 15 (.bool false)
      have hrm : RfM (okx ok s) ((wo.setCell ⟨s, 14, none⟩ (.int .i64 0)).setCell ⟨s, 15, none⟩ (.bool false)) vs' us' (Dk.crash D ks) := ⟨fun i hi => by rw [← hcg i hi]; exact hrm0.sa i hi, fun i hi => by rw [← hcg i hi]; exact hrm0.mo i hi⟩
      have hone := hrm.one
      have hds : Dk.dstep D (5, tt, nn, bs, ks) = (Dk.crash D ks, [], 0) := rfl
      obtain ⟨_, _, _, _, _, _, _, _, _, _, _, _, _, _, q14, q15⟩ := rcell_facts hD.d
      have zf : ∀ o, wo.frozen? ⟨s, o, none⟩ = false := fun o => by simp [World.frozen?, hD.d]
      have Hset := Lib.hid hset
      have Hrm := Lib.hid hrm
      have Hone := Lib.hid hone
      have Hds := Lib.hid hds
      clear hset hcg hcc hrm0 hrm hone hds hD hM hlt hk
      go_wp2_with (first | (refine wpList_loadRow rfl _ _ rfl s rfl (Dk.rcells vs' us' (Dk.crash D ks)) _ (0, 0) _ Hset.out.d Try.underlying52 rfl (H16.out _ _ _) ?_) | (refine wpList_storeRow rfl _ _ _ rfl (s + 1 + 1) rfl zrow (Dk.rcells vs' us' (Dk.crash D ks)) rfl _ Hset.out.z (H16.out _ _ _) (by rfl) Hone.out ?_))
      exact Hfinal.out _ vs' us' (Dk.crash D ks) _ Hset.out Hrm.out Hds.out rfl rfl rfl
end Go.Proofs.Ytennjoegjghlaaa

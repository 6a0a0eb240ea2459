
/-
  The reference's disk: one step (all but the crash and the rest).
-/
import Derived.Test.YtennjoegjghlaaaDiskDoA
namespace Go.Proofs.Ytennjoegjghlaaa
open Go.RowKit
set_option linter.unusedVariables false

set_option maxRecDepth 100000 in
set_option maxHeartbeats 3200000 in
theorem ref16_Do_easy {ok : Nat → Prop} (D : Dk.Dsk) (vs us : Nat → Value) (kk tt nn : Int) (aB : Option Addr) (cB : Nat) (bs : List (BitVec 8)) (aK : Option Addr) (cK : Nat) (ks : List Int) (w : World)
    (hM : RfM ok w vs us D) (hok : Dk.Ok D) (hfr : Dk.Fr D) (ha : 0 ≤ D.acts ∧ D.acts ≤ 9000000000000000000)
    (hsB : Sl EU8 (fun _ => True) w aB bs) (hlB : bs.length ≤ 1000) (hsK : Sl EInt (fun _ => True) w aK ks) (hlK : ks.length ≤ 1000) (hnn : -9223372036854775808 ≤ nn ∧ nn ≤ 9223372036854775807) (k5 : kk ≠ 5) (hnb : (kk = 0 ∨ kk = 1 ∨ kk = 2 ∨ kk = 3) → Dk.err D tt ≠ 0) :
    Calls Try.prog 28 #[.agg (Dk.rcells vs us D), .agg #[.int .i64 kk, .int .i64 tt, .int .i64 nn, .slice aB bs.length cB, .slice aK ks.length cK]] w (DoPost ok w D (kk, tt, nn, bs, ks)) := by
  obtain ⟨s, hs⟩ : ∃ s, s = w.heap.size := ⟨_, rfl⟩
  obtain ⟨C, hC⟩ : ∃ C, C = Dk.rcells vs us D := ⟨_, rfl⟩
  obtain ⟨O, hO⟩ : ∃ O : Array Value, O = #[.int .i64 kk, .int .i64 tt, .int .i64 nn, .slice aB bs.length cB, .slice aK ks.length cK] := ⟨_, rfl⟩
  rw [← hC, ← hO]
  obtain ⟨w1, hw1⟩ : ∃ x, x = ((w.alloc (.cells C 52)).alloc (.cells O 45)).alloc (.cells zrow 52) := ⟨_, rfl⟩
  have hDo := do_mem w s hs C O w1 hw1
  have Hs := Lib.hid hs
  have HC := Lib.hid hC
  have HO := Lib.hid hO
  have Hw1 := Lib.hid hw1
  clear hs hC hO hw1
  have Hnb := Lib.hid hnb
  clear hnb
  go_enter Try.func28, Try.ntmps28
  go_upto_region 1 with fail
  rw [show (#[.slice none 0 0, .bool false, .slice none 0 0, .slice none 0 0, .bool false, .slice none 0 0, .slice none 0 0, .bool false, .slice none 0 0, .slice none 0 0, .bool false, .slice none 0 0, .int .i64 0, .int .i64 0, .int .i64 0, .bool false] : Array Value) = zrow from rfl, ← Hw1.out, ← Hs.out]
  clear Hw1
  have hM1 : RfM (okx ok s) w1 vs us D := hM.mono fun k hk hlt => ⟨hDo.below.block k (by rw [Hs.out]; exact hlt), .inl ⟨hk, by rw [Hs.out]; exact hlt⟩⟩
  have hDo' := hDo
  rw [HO.out] at hDo'
  obtain ⟨o0, o1, o2, o3, o4⟩ := hDo'.sure
  have hcs : C.size = 16 := by rw [HC.out]; rfl
  have hone : C.all (·.oneCell') = true := by rw [HC.out]; exact hM.one
  obtain ⟨hhz, hbz⟩ := hDo.done
  have hcu : (Try.prog.info? 52).map (·.size) = some C.size := by rw [hcs]; kernel_rfl
  have Hcs := Lib.hid hcs
  have Hone := Lib.hid hone
  have Hcu := Lib.hid hcu
  have HhZ := Lib.hid hhz
  have Hhz := Lib.hid hbz
  have HD := Lib.hid hDo
  clear hDo' hhz hbz hcs hone hcu hDo
  have hfinal : ∀ (wx : World) (vs' us' : Nat → Value) (D' : Dk.Dsk) (C' : Array Value) (vb : Value) (e : Int) (lb : List (BitVec 8)) (T : Array Value), C' = Dk.rcells vs' us' D' → DoM w wx s C' O → RfM (okx ok s) wx vs' us' D' → Bt (okx (fun _ => True) s) wx vb lb → Dk.dstep D (kk, tt, nn, bs, ks) = (D', lb, e) →
      T.getD 4 undef = .pointer (some ⟨s + 1 + 1, 0, none⟩) → T.getD 5 undef = vb → T.getD 6 undef = .int .i64 e →
      bodyPost Try.prog Try.f28 (DoPost ok w D (kk, tt, nn, bs, ks)) Exit.ret { tmps := T, defers := [] } (wx.setRow (s + 1 + 1) C') := by
    intro wx vs' us' D' C' vb e lb T hC' hDx hMx hBx hst h4 h5 h6
    obtain ⟨hhz, hbz⟩ := hDx.done
    have hcs : (Try.prog.info? 52).map (·.size) = some C'.size := by rw [show C'.size = 16 by rw [hC']; rfl]; kernel_rfl
    have hO : ∀ k, k ≠ s + 1 + 1 → (wx.setRow (s + 1 + 1) C').heap[k]? = wx.heap[k]? := fun k hk => setRow_other wx (s + 1 + 1) k C' hk
    refine bodyPost_ret (v := .tuple #[.agg C', vb, .int .i64 e]) ?_ rfl ?_
    · rw [results_cell3 (P := Try.prog) Try.results28 T _ (s + 1 + 1) 52 C' (0, 0) _ h4 hhz Try.underlying52 rfl hcs, h5, h6]
    · refine ⟨vs', us', vb, by rw [hst, hC'], ?_, ?_, ?_⟩
      · rw [hst]
        exact hMx.mono fun k hk hlt => ⟨hO k (by rcases hk with h | h <;> omega), by rcases hk with h | h; exact .inl h.1; exact .inr (by have := Hs.out; omega)⟩
      · rw [hst]
        exact hBx.mono fun k hk hlt => ⟨hO k (by rcases hk with h | h <;> omega), trivial⟩
      · rw [← Hs.out]; exact hbz
  have Hfinal := Lib.hid hfinal
  clear hfinal
  have h16 : ∀ (vs' us' : Nat → Value) (D' : Dk.Dsk), (Try.prog.info? 52).map (·.size) = some (Dk.rcells vs' us' D').size := fun vs' us' D' => by rw [show (Dk.rcells vs' us' D').size = 16 from rfl]; kernel_rfl
  have H16 := Lib.hid h16
  have hd1 := HD.out
  rw [HC.out] at hd1
  have hone1 := Hone.out
  rw [HC.out] at hone1
  obtain ⟨q0, q1, q2, q3, q4, q5, q6, q7, q8, q9, q10, q11, q12, q13, q14, q15⟩ := rcell_facts hd1.d
  have bf : ∀ o, w1.frozen? ⟨s, o, none⟩ = false := fun o => by simp [World.frozen?, hd1.d]
  have HD1 := Lib.hid hd1
  have Hone1 := Lib.hid hone1
  have HM1 := Lib.hid hM1
  clear h16 hd1 hone1 hM1
  by_cases k4 : kk = 4
  · subst k4
    have hset := HD1.out.set 14 (.int .i64 nn)
    rw [Dk.rset_fuse] at hset
    have hon : ∀ f : Int, (Dk.rcells vs us { D with fuse := f }).all (·.oneCell') = true := fun f => RfM.one (ok := ok) (w := w) ⟨hM.sa, hM.mo⟩
    have Hon := Lib.hid hon
    by_cases hn0 : nn < 0
    · have hn0' : decide (nn < 0) = true := by simpa using hn0
      have hset2 := hset.set 14 (.int .i64 0)
      rw [Dk.rset_fuse] at hset2
      have Hset := Lib.hid hset2
      have hfz : Dk.fuse D nn = { D with fuse := 0 } := by unfold Dk.fuse; rw [show max 0 nn = 0 by omega]
      have Hfz := Lib.hid hfz
      clear hset hset2 hn0 hon hfz
      go_wp2_with (first | (refine wpList_loadRow rfl _ _ rfl s rfl (Dk.rcells vs us { D with fuse := 0 }) _ (0, 0) _ Hset.out.d Try.underlying52 rfl (H16.out _ _ _) ?_) | (refine wpList_storeRow rfl _ _ _ rfl (s + 1 + 1) rfl zrow (Dk.rcells vs us { D with fuse := 0 }) rfl _ Hset.out.z (H16.out _ _ _) (by rfl) (Hon.out 0) ?_))
      refine Hfinal.out _ vs us { D with fuse := 0 } _ _ 0 [] _ rfl Hset.out ?_ (Bt.nil _ _) (by rw [← Hfz.out]; rfl) rfl rfl rfl
      have := (HM1.out.set0 14 (.int .i64 nn)).set0 14 (.int .i64 0)
      exact ⟨this.sa, this.mo⟩
    · have hn0' : decide (nn < 0) = false := by simpa using hn0
      have Hset := Lib.hid hset
      have hfz : Dk.fuse D nn = { D with fuse := nn } := by unfold Dk.fuse; rw [show max 0 nn = nn by omega]
      have Hfz := Lib.hid hfz
      clear hset hn0 hon hfz
      go_wp2_with (first | (refine wpList_loadRow rfl _ _ rfl s rfl (Dk.rcells vs us { D with fuse := nn }) _ (0, 0) _ Hset.out.d Try.underlying52 rfl (H16.out _ _ _) ?_) | (refine wpList_storeRow rfl _ _ _ rfl (s + 1 + 1) rfl zrow (Dk.rcells vs us { D with fuse := nn }) rfl _ Hset.out.z (H16.out _ _ _) (by rfl) (Hon.out nn) ?_))
      refine Hfinal.out _ vs us { D with fuse := nn } _ _ 0 [] _ rfl Hset.out ?_ (Bt.nil _ _) (by rw [← Hfz.out]; rfl) rfl rfl rfl
      have := HM1.out.set0 14 (.int .i64 nn)
      exact ⟨this.sa, this.mo⟩
  by_cases k0123 : kk = 0 ∨ kk = 1 ∨ kk = 2 ∨ kk = 3
  · have he := Hnb.out k0123
    · have hds := Dk.dstep_err D kk tt nn bs ks k0123 he
      have Hds := Lib.hid hds
      by_cases ht0 : tt < 0
      · have ht0' : decide (tt < 0) = true := by simpa using ht0
        have e1 : Dk.err D tt = 1 := by unfold Dk.err; rw [if_pos (.inl ht0)]
        have E1 := Lib.hid e1
        clear ht0 he hds k4 k5 e1
        rcases k0123 with rfl | rfl | rfl | rfl <;>
          (go_wp2_with (first | (refine wpList_loadRow rfl _ _ rfl s rfl (Dk.rcells vs us D) _ (0, 0) _ HD1.out.d Try.underlying52 rfl (H16.out _ _ _) ?_) | (refine wpList_storeRow rfl _ _ _ rfl (s + 1 + 1) rfl zrow (Dk.rcells vs us D) rfl _ HD1.out.z (H16.out _ _ _) (by rfl) Hone1.out ?_)); exact Hfinal.out w1 vs us D _ _ 1 [] _ rfl HD1.out HM1.out (Bt.nil _ _) (by rw [Hds.out, E1.out]) rfl rfl rfl)
      have ht0' : decide (tt < 0) = false := by simpa using ht0
      by_cases ht4 : 3 < tt
      · have ht4' : decide (3 < tt) = true := by simpa using ht4
        have e1 : Dk.err D tt = 1 := by unfold Dk.err; rw [if_pos (.inr (by omega))]
        have E1 := Lib.hid e1
        clear ht0 ht4 he hds k4 k5 e1
        rcases k0123 with rfl | rfl | rfl | rfl <;>
          (go_wp2_with (first | (refine wpList_loadRow rfl _ _ rfl s rfl (Dk.rcells vs us D) _ (0, 0) _ HD1.out.d Try.underlying52 rfl (H16.out _ _ _) ?_) | (refine wpList_storeRow rfl _ _ _ rfl (s + 1 + 1) rfl zrow (Dk.rcells vs us D) rfl _ HD1.out.z (H16.out _ _ _) (by rfl) Hone1.out ?_)); exact Hfinal.out w1 vs us D _ _ 1 [] _ rfl HD1.out HM1.out (Bt.nil _ _) (by rw [Hds.out, E1.out]) rfl rfl rfl)
      have ht4' : decide (3 < tt) = false := by simpa using ht4
      have hdn : D.down = true := by
        unfold Dk.err at he
        rw [if_neg (by omega)] at he
        cases hd : D.down
        · rw [hd] at he; exact absurd rfl he
        · rfl
      have e1 : Dk.err D tt = 2 := by unfold Dk.err; rw [if_neg (by omega), if_pos hdn]
      have E1 := Lib.hid e1
      rw [hdn] at q15
      clear ht0 ht4 he hds k4 k5 e1 hdn
      rcases k0123 with rfl | rfl | rfl | rfl <;>
        (go_wp2_with (first | (refine wpList_loadRow rfl _ _ rfl s rfl (Dk.rcells vs us D) _ (0, 0) _ HD1.out.d Try.underlying52 rfl (H16.out _ _ _) ?_) | (refine wpList_storeRow rfl _ _ _ rfl (s + 1 + 1) rfl zrow (Dk.rcells vs us D) rfl _ HD1.out.z (H16.out _ _ _) (by rfl) Hone1.out ?_)); exact Hfinal.out w1 vs us D _ _ 2 [] _ rfl HD1.out HM1.out (Bt.nil _ _) (by rw [Hds.out, E1.out]) rfl rfl rfl)
  have k0' : (kk == 0) = false := by simp; omega
  have k1' : (kk == 1) = false := by simp; omega
  have k2' : (kk == 2) = false := by simp; omega
  have k3' : (kk == 3) = false := by simp; omega
  have k4' : (kk == 4) = false := by simpa using k4
  have k5' : (kk == 5) = false := by simpa using k5
  have hds : Dk.dstep D (kk, tt, nn, bs, ks) = (D, [], 0) := by
    unfold Dk.dstep
    rw [if_neg k4, if_neg k5, if_neg (by simp; omega), if_neg (by simp; omega), if_neg (by simp; omega), if_neg (by simp; omega)]
  have Hds := Lib.hid hds
  clear k0123 k4 k5 hds
  go_wp2_with (first | (refine wpList_loadRow rfl _ _ rfl s rfl (Dk.rcells vs us D) _ (0, 0) _ HD1.out.d Try.underlying52 rfl (H16.out _ _ _) ?_) | (refine wpList_storeRow rfl _ _ _ rfl (s + 1 + 1) rfl zrow (Dk.rcells vs us D) rfl _ HD1.out.z (H16.out _ _ _) (by rfl) Hone1.out ?_))
  exact Hfinal.out w1 vs us D _ _ 0 [] _ rfl HD1.out HM1.out (Bt.nil _ _) Hds.out rfl rfl rfl
end Go.Proofs.Ytennjoegjghlaaa

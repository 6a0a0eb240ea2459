
/-
  The reference's disk: one step (reading).
-/
import Derived.Test.YtennjoegjghlaaaDiskDoA
import Derived.Deep.CutBlock
import Derived.Deep.RegionLaw
namespace Go.Proofs.Ytennjoegjghlaaa
open Go.RowKit
set_option linter.unusedVariables false

set_option maxRecDepth 100000 in
set_option maxHeartbeats 16000000 in
theorem ref16_Do_read {ok : Nat → Prop} (D : Dk.Dsk) (vs us : Nat → Value) (kk nn : Int) (aB : Option Addr) (cB : Nat) (bs : List (BitVec 8)) (aK : Option Addr) (cK : Nat) (ks : List Int) (w : World)
    (hM : RfM ok w vs us D) (hok : Dk.Ok D) (hfr : Dk.Fr D) (ha : 0 ≤ D.acts ∧ D.acts ≤ 9000000000000000000)
    (hsB : Sl EU8 (fun _ => True) w aB bs) (hlB : bs.length ≤ 1000) (hsK : Sl EInt (fun _ => True) w aK ks) (hlK : ks.length ≤ 1000) (hnn : -9223372036854775808 ≤ nn ∧ nn ≤ 9223372036854775807) (k : Nat) (hk4 : k < 4) (hdn : D.down = false) (hkk0 : kk = 3) :
    Calls Try.prog 28 #[.agg (Dk.rcells vs us D), .agg #[.int .i64 kk, .int .i64 (k : Int), .int .i64 nn, .slice aB bs.length cB, .slice aK ks.length cK]] w (DoPost ok w D (kk, (k : Int), nn, bs, ks)) := by
  obtain ⟨s, hs⟩ : ∃ s, s = w.heap.size := ⟨_, rfl⟩
  obtain ⟨C, hC⟩ : ∃ C, C = Dk.rcells vs us D := ⟨_, rfl⟩
  obtain ⟨O, hO⟩ : ∃ O : Array Value, O = #[.int .i64 kk, .int .i64 (k : Int), .int .i64 nn, .slice aB bs.length cB, .slice aK ks.length cK] := ⟨_, rfl⟩
  rw [← hC, ← hO]
  obtain ⟨w1, hw1⟩ : ∃ x, x = ((w.alloc (.cells C 52)).alloc (.cells O 45)).alloc (.cells zrow 52) := ⟨_, rfl⟩
  have hDo := do_mem w s hs C O w1 hw1
  have Hs := Lib.hid hs
  have HC := Lib.hid hC
  have HO := Lib.hid hO
  have Hw1 := Lib.hid hw1
  clear hs hC hO hw1
  go_enter Try.func28, Try.ntmps28
  go_upto_region 1 with fail
  rw [show (#[.slice none 0 0, .bool false, .slice none 0 0, .slice none 0 0, .bool false, .slice none 0 0, .slice none 0 0, .bool false, .slice none 0 0, .slice none 0 0, .bool false, .slice none 0 0, .int .i64 0, .int .i64 0, .int .i64 0, .bool false] : Array Value) = zrow from rfl, ← Hw1.out, ← Hs.out]
  clear Hw1
  have hM1 : RfM (okx ok s) w1 vs us D := hM.mono fun k hk hlt => ⟨hDo.below.block k (by rw [Hs.out]; exact hlt), .inl ⟨hk, by rw [Hs.out]; exact hlt⟩⟩
  have hDo' := hDo
  rw [HO.out] at hDo'
  obtain ⟨o0, o1, o2, o3, o4⟩ := hDo'.sure
  have hcs : C.size = 16 := by rw [HC.out]; rfl
  have hone : C.all (·.oneCell') = true := by rw [HC.out]; exact hM.one
  obtain ⟨hhz, hbz⟩ := hDo.done
  have hcu : (Try.prog.info? 52).map (·.size) = some C.size := by rw [hcs]; kernel_rfl
  have Hcs := Lib.hid hcs
  have Hone := Lib.hid hone
  have Hcu := Lib.hid hcu
  have HhZ := Lib.hid hhz
  have Hhz := Lib.hid hbz
  have HD := Lib.hid hDo
  clear hDo' hhz hbz hcs hone hcu hDo
  have hfinal2 : ∀ (wz : World) (vs' us' : Nat → Value) (D' : Dk.Dsk) (vb : Value) (e : Int) (lb : List (BitVec 8)) (T : Array Value), wz.heap[s + 1 + 1]? = some (.cells (Dk.rcells vs' us' D') 52 (0, 0)) → Below s w wz → RfM (okx ok s) wz vs' us' D' → Bt (okx (fun _ => True) s) wz vb lb → Dk.dstep D (kk, (k : Int), nn, bs, ks) = (D', lb, e) →
      T.getD 4 undef = .pointer (some ⟨s + 1 + 1, 0, none⟩) → T.getD 5 undef = vb → T.getD 6 undef = .int .i64 e →
      bodyPost Try.prog Try.f28 (DoPost ok w D (kk, (k : Int), nn, bs, ks)) Exit.ret { tmps := T, defers := [] } wz := by
    intro wz vs' us' D' vb e lb T hhz hbz hMx hBx hst h4 h5 h6
    have hcs : (Try.prog.info? 52).map (·.size) = some (Dk.rcells vs' us' D').size := by rw [show (Dk.rcells vs' us' D').size = 16 from rfl]; kernel_rfl
    refine bodyPost_ret (v := .tuple #[.agg (Dk.rcells vs' us' D'), vb, .int .i64 e]) ?_ rfl ?_
    · rw [results_cell3 (P := Try.prog) Try.results28 T _ (s + 1 + 1) 52 _ (0, 0) _ h4 hhz Try.underlying52 rfl hcs, h5, h6]
    · refine ⟨vs', us', vb, by rw [hst], ?_, ?_, ?_⟩
      · rw [hst]
        exact hMx.mono fun k hk hlt => ⟨rfl, by rcases hk with h | h; exact .inl h.1; exact .inr (by have := Hs.out; omega)⟩
      · rw [hst]
        exact hBx.mono fun k hk hlt => ⟨rfl, trivial⟩
      · rw [← Hs.out]; exact hbz
  have Hfinal2 := Lib.hid hfinal2
  have hfinal : ∀ (wx : World) (vs' us' : Nat → Value) (D' : Dk.Dsk) (vb : Value) (e : Int) (lb : List (BitVec 8)) (T : Array Value), DoM w wx s (Dk.rcells vs' us' D') O → RfM (okx ok s) wx vs' us' D' → Bt (okx (fun _ => True) s) wx vb lb → Dk.dstep D (kk, (k : Int), nn, bs, ks) = (D', lb, e) →
      T.getD 4 undef = .pointer (some ⟨s + 1 + 1, 0, none⟩) → T.getD 5 undef = vb → T.getD 6 undef = .int .i64 e →
      bodyPost Try.prog Try.f28 (DoPost ok w D (kk, (k : Int), nn, bs, ks)) Exit.ret { tmps := T, defers := [] } (wx.setRow (s + 1 + 1) (Dk.rcells vs' us' D')) := by
    intro wx vs' us' D' vb e lb T hDx hMx hBx hst h4 h5 h6
    obtain ⟨hhz, hbz⟩ := hDx.done
    have hO : ∀ k, k ≠ s + 1 + 1 → (wx.setRow (s + 1 + 1) (Dk.rcells vs' us' D')).heap[k]? = wx.heap[k]? := fun k hk => setRow_other wx (s + 1 + 1) k _ hk
    exact Hfinal2.out _ vs' us' D' vb e lb T hhz hbz (hMx.mono fun k hk hlt => ⟨hO k (by rcases hk with h | h <;> omega), hk⟩) (hBx.mono fun k hk hlt => ⟨hO k (by rcases hk with h | h <;> omega), hk⟩) hst h4 h5 h6
  have Hfinal := Lib.hid hfinal
  clear hfinal hfinal2
  have h16 : ∀ (vs' us' : Nat → Value) (D' : Dk.Dsk), (Try.prog.info? 52).map (·.size) = some (Dk.rcells vs' us' D').size := fun vs' us' D' => by rw [show (Dk.rcells vs' us' D').size = 16 from rfl]; kernel_rfl
  have H16 := Lib.hid h16
  have hd1 := HD.out
  rw [HC.out] at hd1
  have hone1 := Hone.out
  rw [HC.out] at hone1
  have bf : ∀ o, w1.frozen? ⟨s, o, none⟩ = false := fun o => by simp [World.frozen?, hd1.d]
  obtain ⟨x, hx⟩ : ∃ x, x = D.t k := ⟨_, rfl⟩
  obtain ⟨a0, c0, e0, hc0, hm0, hs0⟩ := hM1.sa k hk4
  obtain ⟨a2, c2, e2, hc2, hm2, hs2⟩ := hM1.mo k hk4
  have r0 : w1.cell? ⟨s, k * 3, none⟩ = some (.slice a0 (Dk.rsafe x).length c0) := by simp [World.cell?, hd1.d, Dk.rget_s hk4, e0, hx]
  have r1 : w1.cell? ⟨s, k * 3 + 1, none⟩ = some (.bool x.fresh) := by simp [World.cell?, hd1.d, Dk.rget_c hk4, hx]
  have r2 : w1.cell? ⟨s, k * 3 + 2, none⟩ = some (.slice a2 (Dk.rmore x).length c2) := by simp [World.cell?, hd1.d, Dk.rget_m hk4, e2, hx]
  obtain ⟨_, _, _, _, _, _, _, _, _, _, _, _, q12, q13, q14, q15⟩ := rcell_facts hd1.d
  rw [hdn] at q15
  rw [← hx] at hs0 hs2 hc0 hc2 e0 e2
  obtain ⟨ls, hls⟩ : ∃ l, l = Dk.rsafe x := ⟨_, rfl⟩
  obtain ⟨lm, hlm⟩ : ∃ l, l = Dk.rmore x := ⟨_, rfl⟩
  rw [← hls] at r0 hs0 hc0 e0
  rw [← hlm] at r2 hs2 hc2 e2
  have hxb : (if x.fresh = true then [] else ls) ++ lm = x.b := by rw [hls, hlm]; exact Dk.rnow x
  have hbl : x.b.length ≤ 4194304 := by have h1 := hok.len k; have h2 := hok.room1; rw [← hx] at h1; omega
  have hol : x.old.length ≤ 4194304 := by have h1 := hok.old k; have h2 := hok.room1; rw [← hx] at h1; omega
  have hlsl : ls.length ≤ 4194304 := by rw [hls]; unfold Dk.rsafe; split; exact hol; rw [List.length_take]; omega
  have hlml : lm.length ≤ 4194304 := by rw [hlm]; unfold Dk.rmore; split; exact hbl; rw [List.length_drop]; omega
  obtain ⟨w2, hw2⟩ : ∃ y, y = w1.alloc (.cells #[.slice a0 ls.length c0, .bool x.fresh, .slice a2 lm.length c2] 49) := ⟨_, rfl⟩
  obtain ⟨p, hp⟩ : ∃ p, p = w1.heap.size := ⟨_, rfl⟩
  have hb2 : Below w1.heap.size w1 w2 := by rw [hw2]; exact alloc_below _ _
  have hh2 : w2.heap[p]? = some (.cells #[.slice a0 ls.length c0, .bool x.fresh, .slice a2 lm.length c2] 49 (0, 0)) := by rw [hw2, hp]; exact heap_alloc_new _ _
  have hd2 := hd1.keep hb2
  have hps : s + 3 ≤ p := by rw [hp]; exact hd1.size
  have p0 : w2.cell? ⟨p, 0, none⟩ = some (.slice a0 ls.length c0) := by simp [World.cell?, hh2]
  have p1 : w2.cell? ⟨p, 1, none⟩ = some (.bool x.fresh) := by simp [World.cell?, hh2]
  have p2 : w2.cell? ⟨p, 2, none⟩ = some (.slice a2 lm.length c2) := by simp [World.cell?, hh2]
  have hdo2 := hd2
  rw [HO.out] at hdo2
  obtain ⟨y0, y1, y2, y3, y4⟩ := hdo2.sure
  obtain ⟨_, _, _, _, _, _, _, _, _, _, _, _, z12, z13, z14, z15⟩ := rcell_facts hd2.d
  have zf : ∀ o, w2.frozen? ⟨s, o, none⟩ = false := fun o => by simp [World.frozen?, hd2.d]
  rw [hdn] at z15
  clear hdo2
  have hnow : ∀ W : World, (∀ q, q < w1.heap.size → (q < s ∨ s + 3 ≤ q) → W.heap[q]? = w1.heap[q]?) → Calls Try.prog 31 #[.agg #[.slice a0 ls.length c0, .bool x.fresh, .slice a2 lm.length c2]] W fun e W' => ∃ v, e = .returned v ∧ Own EU8 5 W.heap.size W' v x.b ∧ Below W.heap.size W W' := by
    intro W hW
    have := ref16_Now a0 ls.length c0 ls x.fresh a2 lm.length c2 lm W.heap.size W rfl ⟨rfl, hs0.mono (by decide) fun q hq hlt => ⟨hW q hlt (by rcases hq with h | h; exact .inl h.2; exact .inr h), trivial⟩⟩ ⟨rfl, hs2.mono (by decide) fun q hq hlt => ⟨hW q hlt (by rcases hq with h | h; exact .inl h.2; exact .inr h), trivial⟩⟩ (by omega) (by omega)
    rw [hxb] at this
    exact this
  have Hnow := Lib.hid hnow
  clear hnow
  have pf : ∀ o, w2.frozen? ⟨p, o, none⟩ = false := fun o => by simp [World.frozen?, hh2]
  have i0 : (0 : Int) ≤ (k : Int) := by omega
  have i4 : (k : Int) < 4 := by omega
  have i3 : decide (3 < (k : Int)) = false := decide_eq_false (by omega)
  have in_ : decide ((k : Int) < 0) = false := decide_eq_false (by omega)
  have he : Dk.err D (k : Int) = 0 := by unfold Dk.err; rw [if_neg (by omega), hdn]; rfl
  have He := Lib.hid he
  have Hx := Lib.hid hx
  have Hls := Lib.hid hls
  have Hlm := Lib.hid hlm
  have Hxb := Lib.hid hxb
  have Hw2 := Lib.hid hw2
  have Hp := Lib.hid hp
  have HD1 := Lib.hid hd1
  have HD2 := Lib.hid hd2
  have Hone1 := Lib.hid hone1
  have HM1 := Lib.hid hM1
  have Hb2 := Lib.hid hb2
  have He0 := Lib.hid e0
  have He2 := Lib.hid e2
  have Hs0 := Lib.hid hs0
  have Hs2 := Lib.hid hs2
  have Hh2 := Lib.hid hh2
  clear h16 hd1 hone1 hM1 hdn he hx hls hlm hxb hw2 hp hd2 hb2 e0 e2 hs0 hs2 hh2
  · subst hkk0
    go_upto_region 36 with fail
    rw [← Hw2.out, ← Hp.out]
    have hnow2 := Hnow.out w2.drew (fun q hq _ => by rw [Hw2.out]; exact heap_alloc_old _ _ hq)
    have Hnow2 := Lib.hid hnow2
    have hlit : (#[vs 0, .bool (D.t 0).fresh, us 0, vs 1, .bool (D.t 1).fresh, us 1, vs 2, .bool (D.t 2).fresh, us 2, vs 3, .bool (D.t 3).fresh, us 3, .int .i64 D.room, .int .i64 D.acts, .int .i64 D.fuse, .bool D.down] : Array Value) = C := HC.out.symm
    obtain ⟨q0, q1, q2, q3, q4, q5, q6, q7, q8, q9, q10, q11, q12, q13, q14, q15⟩ := rcell_facts HD2.out.d
    have hds : Dk.dstep D (3, (k : Int), nn, bs, ks) = (D, x.b, 0) := by
      show (D, (Dk.read D (k : Int)).1, (Dk.read D (k : Int)).2) = _
      unfold Dk.read
      rw [He.out, if_neg (by decide), Int.toNat_natCast, ← Hx.out]
    have Hds := Lib.hid hds
    have hcs := Hcs.out
    clear hnow2 z12 z13 z14 z15 hds
    go_wp2_with fail
    go_region_law ((go_simp; go_at_call 31; refine (Hnow2.out).mono ?_; rintro e w5 ⟨v5, rfl, ho5, hb5⟩; have kd := (hb5.block s (by have := HD2.out.size; simp; omega)).trans HD2.out.d; have kz := (hb5.block (s + 1 + 1) (by have := HD2.out.size; simp; omega)).trans HD2.out.z; have hst := row_store (P := Try.prog) w5 (s + 1 + 1) zrow C _ kz (by rw [Hcs.out]; rfl) Hone.out; obtain ⟨f0, f1, f2, f3, f4, f5, f6, f7, f8, f9, f10, f11, f12, f13, f14, f15⟩ := rcell_facts kd))
    all_goals
      have hb25 : Below w2.heap.size w2 w5 := ((Below.refl w2.heap.size w2).drew).trans hb5
      have hwk : ∀ q, q < w1.heap.size → w5.heap[q]? = w1.heap[q]? := fun q hq => (hb25.block q (Nat.lt_of_lt_of_le hq Hb2.out.size)).trans (Hb2.out.block q hq)
      have hfin := Hfinal.out w5 vs us D v5 0 x.b
      rw [← HC.out] at hfin
      have Hfin := Lib.hid hfin
      have Hwk := Lib.hid hwk
      have Hb25 := Lib.hid hb25
      clear hfin hwk hb25
      go_wp2_with fail
      refine Hfin.out _ (by rw [HC.out]; exact HD2.out.keep Hb25.out) (HM1.out.mono fun q hq hlt => ⟨Hwk.out q hlt, hq⟩) (ho5.bt.mono fun q hq hlt => ⟨rfl, .inr (by have := HD2.out.size; simp at hq; omega)⟩) Hds.out rfl rfl rfl
end Go.Proofs.Ytennjoegjghlaaa

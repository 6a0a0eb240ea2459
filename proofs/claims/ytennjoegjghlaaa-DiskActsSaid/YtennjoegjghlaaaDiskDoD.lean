
/-
  The reference's disk: one step (the rest).
-/
import Derived.Test.YtennjoegjghlaaaDiskDoA
import Derived.Deep.CutBlock
import Derived.Deep.RegionLaw
import Derived.Deep.RegionHeld3
namespace Go.Proofs.Ytennjoegjghlaaa
open Go.RowKit
set_option linter.unusedVariables false

/-- a tape behind the switch -/
def swT (x : Dk.Tp) (kk : Int) (bs : List (BitVec 8)) (f : Int) : Dk.Tp := if kk = 0 then { x with b := x.b ++ bs } else if kk = 1 then Dk.clearT x else if f = 1 then x else Dk.flushT x
def SwPost (ok : Nat → Prop) (s p : Nat) (wb wx : World) (x' : Dk.Tp) : Prop :=
  ∃ v u, wx.heap[p]? = some (.cells #[v, .bool x'.fresh, u] 49 (0, 0)) ∧ Bt (fun q => okx ok s q ∧ q ≠ p) wx v (Dk.rsafe x') ∧ Bt (fun q => okx ok s q ∧ q ≠ p) wx u (Dk.rmore x') ∧ Only (· = p) wb wx

theorem dstep_main (D : Dk.Dsk) (k : Nat) (he : Dk.err D (k : Int) = 0) (kk nn : Int) (bs : List (BitVec 8)) (ks : List Int) (hkk : kk = 0 ∨ kk = 1 ∨ kk = 2) (hnf : ¬ (kk = 0 ∧ D.room - ((D.t k).b.length : Int) < (bs.length : Int))) :
    Dk.dstep D (kk, (k : Int), nn, bs, ks) = if D.fuse = 1 then ({ Dk.setT D k (swT (D.t k) kk bs D.fuse) with fuse := 0, down := true }, [], 2) else ({ Dk.setT D k (swT (D.t k) kk bs D.fuse) with fuse := max 0 (D.fuse - 1), acts := D.acts + 1 }, [], 0) := by
  have hself : Dk.setT D k (D.t k) = D := by unfold Dk.setT; rw [Dk.upd_self]
  rcases hkk with rfl | rfl | rfl
  · show ((Dk.app D (k : Int) bs).1, [], (Dk.app D (k : Int) bs).2) = _
    unfold Dk.app
    rw [he, if_neg (by decide), Int.toNat_natCast, if_neg (fun h => hnf ⟨rfl, h⟩)]
    have e : swT (D.t k) 0 bs D.fuse = { D.t k with b := (D.t k).b ++ bs } := rfl
    rw [e]
    unfold Dk.act
    have e2 : (Dk.setT D k { D.t k with b := (D.t k).b ++ bs }).fuse = D.fuse := rfl
    rw [e2]
    split <;> rfl
  · show ((Dk.clear D (k : Int)).1, [], (Dk.clear D (k : Int)).2) = _
    unfold Dk.clear
    rw [he, if_neg (by decide), Int.toNat_natCast]
    have e : swT (D.t k) 1 bs D.fuse = Dk.clearT (D.t k) := rfl
    rw [e]
    unfold Dk.act
    have e2 : (Dk.setT D k (Dk.clearT (D.t k))).fuse = D.fuse := rfl
    rw [e2]
    split <;> rfl
  · show ((Dk.flush D (k : Int)).1, [], (Dk.flush D (k : Int)).2) = _
    unfold Dk.flush
    rw [he, if_neg (by decide), Int.toNat_natCast]
    by_cases hf : D.fuse = 1
    · have e : swT (D.t k) 2 bs D.fuse = D.t k := by unfold swT; rw [if_neg (by decide), if_neg (by decide), if_pos hf]
      rw [e, hself, if_pos hf]
      unfold Dk.act
      rw [if_pos hf, if_pos (by show (2 : Int) ≠ 0; decide)]
    · have e : swT (D.t k) 2 bs D.fuse = Dk.flushT (D.t k) := by unfold swT; rw [if_neg (by decide), if_neg (by decide), if_neg hf]
      rw [e, if_neg hf]
      unfold Dk.act
      rw [if_neg hf, if_neg (by show ¬ ((0 : Int) ≠ 0); decide)]
      rfl

set_option maxRecDepth 100000 in
set_option maxHeartbeats 16000000 in
theorem ref16_Do_main {ok : Nat → Prop} (D : Dk.Dsk) (vs us : Nat → Value) (kk nn : Int) (aB : Option Addr) (cB : Nat) (bs : List (BitVec 8)) (aK : Option Addr) (cK : Nat) (ks : List Int) (w : World)
    (hM : RfM ok w vs us D) (hok : Dk.Ok D) (hfr : Dk.Fr D) (ha : 0 ≤ D.acts ∧ D.acts ≤ 9000000000000000000)
    (hsB : Sl EU8 (fun _ => True) w aB bs) (hlB : bs.length ≤ 1000) (hsK : Sl EInt (fun _ => True) w aK ks) (hlK : ks.length ≤ 1000) (hnn : -9223372036854775808 ≤ nn ∧ nn ≤ 9223372036854775807) (k : Nat) (hk4 : k < 4) (hdn : D.down = false) (hkk0 : kk = 0 ∨ kk = 1 ∨ kk = 2) :
    Calls Try.prog 28 #[.agg (Dk.rcells vs us D), .agg #[.int .i64 kk, .int .i64 (k : Int), .int .i64 nn, .slice aB bs.length cB, .slice aK ks.length cK]] w (DoPost ok w D (kk, (k : Int), nn, bs, ks)) := by
  obtain ⟨s, hs⟩ : ∃ s, s = w.heap.size := ⟨_, rfl⟩
  obtain ⟨C, hC⟩ : ∃ C, C = Dk.rcells vs us D := ⟨_, rfl⟩
  obtain ⟨O, hO⟩ : ∃ O : Array Value, O = #[.int .i64 kk, .int .i64 (k : Int), .int .i64 nn, .slice aB bs.length cB, .slice aK ks.length cK] := ⟨_, rfl⟩
  rw [← hC, ← hO]
  obtain ⟨w1, hw1⟩ : ∃ x, x = ((w.alloc (.cells C 52)).alloc (.cells O 45)).alloc (.cells zrow 52) := ⟨_, rfl⟩
  have hDo := do_mem w s hs C O w1 hw1
  have Hs := Lib.hid hs
  have HC := Lib.hid hC
  have HO := Lib.hid hO
  have Hw1 := Lib.hid hw1
  clear hs hC hO hw1
  go_enter Try.func28, Try.ntmps28
  go_upto_region 1 with fail
  rw [show (#[.slice none 0 0, .bool false, .slice none 0 0, .slice none 0 0, .bool false, .slice none 0 0, .slice none 0 0, .bool false, .slice none 0 0, .slice none 0 0, .bool false, .slice none 0 0, .int .i64 0, .int .i64 0, .int .i64 0, .bool false] : Array Value) = zrow from rfl, ← Hw1.out, ← Hs.out]
  clear Hw1
  have hM1 : RfM (okx ok s) w1 vs us D := hM.mono fun k hk hlt => ⟨hDo.below.block k (by rw [Hs.out]; exact hlt), .inl ⟨hk, by rw [Hs.out]; exact hlt⟩⟩
  have hDo' := hDo
  rw [HO.out] at hDo'
  obtain ⟨o0, o1, o2, o3, o4⟩ := hDo'.sure
  have hcs : C.size = 16 := by rw [HC.out]; rfl
  have hone : C.all (·.oneCell') = true := by rw [HC.out]; exact hM.one
  obtain ⟨hhz, hbz⟩ := hDo.done
  have hcu : (Try.prog.info? 52).map (·.size) = some C.size := by rw [hcs]; kernel_rfl
  have Hcs := Lib.hid hcs
  have Hone := Lib.hid hone
  have Hcu := Lib.hid hcu
  have HhZ := Lib.hid hhz
  have Hhz := Lib.hid hbz
  have HD := Lib.hid hDo
  clear hDo' hhz hbz hcs hone hcu hDo
  have hfinal2 : ∀ (wz : World) (vs' us' : Nat → Value) (D' : Dk.Dsk) (vb : Value) (e : Int) (lb : List (BitVec 8)) (T : Array Value), wz.heap[s + 1 + 1]? = some (.cells (Dk.rcells vs' us' D') 52 (0, 0)) → Below s w wz → RfM (okx ok s) wz vs' us' D' → Bt (okx (fun _ => True) s) wz vb lb → Dk.dstep D (kk, (k : Int), nn, bs, ks) = (D', lb, e) →
      T.getD 4 undef = .pointer (some ⟨s + 1 + 1, 0, none⟩) → T.getD 5 undef = vb → T.getD 6 undef = .int .i64 e →
      bodyPost Try.prog Try.f28 (DoPost ok w D (kk, (k : Int), nn, bs, ks)) Exit.ret { tmps := T, defers := [] } wz := by
    intro wz vs' us' D' vb e lb T hhz hbz hMx hBx hst h4 h5 h6
    have hcs : (Try.prog.info? 52).map (·.size) = some (Dk.rcells vs' us' D').size := by rw [show (Dk.rcells vs' us' D').size = 16 from rfl]; kernel_rfl
    refine bodyPost_ret (v := .tuple #[.agg (Dk.rcells vs' us' D'), vb, .int .i64 e]) ?_ rfl ?_
    · rw [results_cell3 (P := Try.prog) Try.results28 T _ (s + 1 + 1) 52 _ (0, 0) _ h4 hhz Try.underlying52 rfl hcs, h5, h6]
    · refine ⟨vs', us', vb, by rw [hst], ?_, ?_, ?_⟩
      · rw [hst]
        exact hMx.mono fun k hk hlt => ⟨rfl, by rcases hk with h | h; exact .inl h.1; exact .inr (by have := Hs.out; omega)⟩
      · rw [hst]
        exact hBx.mono fun k hk hlt => ⟨rfl, trivial⟩
      · rw [← Hs.out]; exact hbz
  have Hfinal2 := Lib.hid hfinal2
  have hfinal : ∀ (wx : World) (vs' us' : Nat → Value) (D' : Dk.Dsk) (vb : Value) (e : Int) (lb : List (BitVec 8)) (T : Array Value), DoM w wx s (Dk.rcells vs' us' D') O → RfM (okx ok s) wx vs' us' D' → Bt (okx (fun _ => True) s) wx vb lb → Dk.dstep D (kk, (k : Int), nn, bs, ks) = (D', lb, e) →
      T.getD 4 undef = .pointer (some ⟨s + 1 + 1, 0, none⟩) → T.getD 5 undef = vb → T.getD 6 undef = .int .i64 e →
      bodyPost Try.prog Try.f28 (DoPost ok w D (kk, (k : Int), nn, bs, ks)) Exit.ret { tmps := T, defers := [] } (wx.setRow (s + 1 + 1) (Dk.rcells vs' us' D')) := by
    intro wx vs' us' D' vb e lb T hDx hMx hBx hst h4 h5 h6
    obtain ⟨hhz, hbz⟩ := hDx.done
    have hO : ∀ k, k ≠ s + 1 + 1 → (wx.setRow (s + 1 + 1) (Dk.rcells vs' us' D')).heap[k]? = wx.heap[k]? := fun k hk => setRow_other wx (s + 1 + 1) k _ hk
    exact Hfinal2.out _ vs' us' D' vb e lb T hhz hbz (hMx.mono fun k hk hlt => ⟨hO k (by rcases hk with h | h <;> omega), hk⟩) (hBx.mono fun k hk hlt => ⟨hO k (by rcases hk with h | h <;> omega), hk⟩) hst h4 h5 h6
  have Hfinal := Lib.hid hfinal
  clear hfinal hfinal2
  have h16 : ∀ (vs' us' : Nat → Value) (D' : Dk.Dsk), (Try.prog.info? 52).map (·.size) = some (Dk.rcells vs' us' D').size := fun vs' us' D' => by rw [show (Dk.rcells vs' us' D').size = 16 from rfl]; kernel_rfl
  have H16 := Lib.hid h16
  have hd1 := HD.out
  rw [HC.out] at hd1
  have hone1 := Hone.out
  rw [HC.out] at hone1
  have bf : ∀ o, w1.frozen? ⟨s, o, none⟩ = false := fun o => by simp [World.frozen?, hd1.d]
  obtain ⟨x, hx⟩ : ∃ x, x = D.t k := ⟨_, rfl⟩
  obtain ⟨a0, c0, e0, hc0, hm0, hs0⟩ := hM1.sa k hk4
  obtain ⟨a2, c2, e2, hc2, hm2, hs2⟩ := hM1.mo k hk4
  have r0 : w1.cell? ⟨s, k * 3, none⟩ = some (.slice a0 (Dk.rsafe x).length c0) := by simp [World.cell?, hd1.d, Dk.rget_s hk4, e0, hx]
  have r1 : w1.cell? ⟨s, k * 3 + 1, none⟩ = some (.bool x.fresh) := by simp [World.cell?, hd1.d, Dk.rget_c hk4, hx]
  have r2 : w1.cell? ⟨s, k * 3 + 2, none⟩ = some (.slice a2 (Dk.rmore x).length c2) := by simp [World.cell?, hd1.d, Dk.rget_m hk4, e2, hx]
  obtain ⟨_, _, _, _, _, _, _, _, _, _, _, _, q12, q13, q14, q15⟩ := rcell_facts hd1.d
  rw [hdn] at q15
  rw [← hx] at hs0 hs2 hc0 hc2 e0 e2
  obtain ⟨ls, hls⟩ : ∃ l, l = Dk.rsafe x := ⟨_, rfl⟩
  obtain ⟨lm, hlm⟩ : ∃ l, l = Dk.rmore x := ⟨_, rfl⟩
  rw [← hls] at r0 hs0 hc0 e0
  rw [← hlm] at r2 hs2 hc2 e2
  have hxb : (if x.fresh = true then [] else ls) ++ lm = x.b := by rw [hls, hlm]; exact Dk.rnow x
  have hbl : x.b.length ≤ 4194304 := by have h1 := hok.len k; have h2 := hok.room1; rw [← hx] at h1; omega
  have hol : x.old.length ≤ 4194304 := by have h1 := hok.old k; have h2 := hok.room1; rw [← hx] at h1; omega
  have hlsl : ls.length ≤ 4194304 := by rw [hls]; unfold Dk.rsafe; split; exact hol; rw [List.length_take]; omega
  have hlml : lm.length ≤ 4194304 := by rw [hlm]; unfold Dk.rmore; split; exact hbl; rw [List.length_drop]; omega
  obtain ⟨w2, hw2⟩ : ∃ y, y = w1.alloc (.cells #[.slice a0 ls.length c0, .bool x.fresh, .slice a2 lm.length c2] 49) := ⟨_, rfl⟩
  obtain ⟨p, hp⟩ : ∃ p, p = w1.heap.size := ⟨_, rfl⟩
  have hb2 : Below w1.heap.size w1 w2 := by rw [hw2]; exact alloc_below _ _
  have hh2 : w2.heap[p]? = some (.cells #[.slice a0 ls.length c0, .bool x.fresh, .slice a2 lm.length c2] 49 (0, 0)) := by rw [hw2, hp]; exact heap_alloc_new _ _
  have hd2 := hd1.keep hb2
  have hps : s + 3 ≤ p := by rw [hp]; exact hd1.size
  have p0 : w2.cell? ⟨p, 0, none⟩ = some (.slice a0 ls.length c0) := by simp [World.cell?, hh2]
  have p1 : w2.cell? ⟨p, 1, none⟩ = some (.bool x.fresh) := by simp [World.cell?, hh2]
  have p2 : w2.cell? ⟨p, 2, none⟩ = some (.slice a2 lm.length c2) := by simp [World.cell?, hh2]
  have hdo2 := hd2
  rw [HO.out] at hdo2
  obtain ⟨y0, y1, y2, y3, y4⟩ := hdo2.sure
  obtain ⟨_, _, _, _, _, _, _, _, _, _, _, _, z12, z13, z14, z15⟩ := rcell_facts hd2.d
  have zf : ∀ o, w2.frozen? ⟨s, o, none⟩ = false := fun o => by simp [World.frozen?, hd2.d]
  rw [hdn] at z15
  clear hdo2
  have hnow : ∀ W : World, (∀ q, q < w1.heap.size → (q < s ∨ s + 3 ≤ q) → W.heap[q]? = w1.heap[q]?) → Calls Try.prog 31 #[.agg #[.slice a0 ls.length c0, .bool x.fresh, .slice a2 lm.length c2]] W fun e W' => ∃ v, e = .returned v ∧ Own EU8 5 W.heap.size W' v x.b ∧ Below W.heap.size W W' := by
    intro W hW
    have := ref16_Now a0 ls.length c0 ls x.fresh a2 lm.length c2 lm W.heap.size W rfl ⟨rfl, hs0.mono (by decide) fun q hq hlt => ⟨hW q hlt (by rcases hq with h | h; exact .inl h.2; exact .inr h), trivial⟩⟩ ⟨rfl, hs2.mono (by decide) fun q hq hlt => ⟨hW q hlt (by rcases hq with h | h; exact .inl h.2; exact .inr h), trivial⟩⟩ (by omega) (by omega)
    rw [hxb] at this
    exact this
  have Hnow := Lib.hid hnow
  clear hnow
  have pf : ∀ o, w2.frozen? ⟨p, o, none⟩ = false := fun o => by simp [World.frozen?, hh2]
  have i0 : (0 : Int) ≤ (k : Int) := by omega
  have i4 : (k : Int) < 4 := by omega
  have i3 : decide (3 < (k : Int)) = false := decide_eq_false (by omega)
  have in_ : decide ((k : Int) < 0) = false := decide_eq_false (by omega)
  have he : Dk.err D (k : Int) = 0 := by unfold Dk.err; rw [if_neg (by omega), hdn]; rfl
  have He := Lib.hid he
  have Hx := Lib.hid hx
  have Hls := Lib.hid hls
  have Hlm := Lib.hid hlm
  have Hxb := Lib.hid hxb
  have Hw2 := Lib.hid hw2
  have Hp := Lib.hid hp
  have HD1 := Lib.hid hd1
  have HD2 := Lib.hid hd2
  have Hone1 := Lib.hid hone1
  have HM1 := Lib.hid hM1
  have Hb2 := Lib.hid hb2
  have He0 := Lib.hid e0
  have He2 := Lib.hid e2
  have Hs0 := Lib.hid hs0
  have Hs2 := Lib.hid hs2
  have Hh2 := Lib.hid hh2
  clear h16 hd1 hone1 hM1 hdn he hx hls hlm hxb hw2 hp hd2 hb2 e0 e2 hs0 hs2 hh2
  have hkk : kk = 0 ∨ kk = 1 ∨ kk = 2 := hkk0
  have k3' : (kk == 3) = false := by simp; omega
  have k4' : (kk == 4) = false := by simp; omega
  have k5' : (kk == 5) = false := by simp; omega
  have hroom : IntKind.i64.wrap (D.room - (x.b.length : Int)) = D.room - (x.b.length : Int) := by
    have := hok.room0; have := hok.room1
    exact IntWalk.i64_in _ (by omega)
  have hnow2 := Hnow.out w2.drew (fun q hq _ => by rw [Hw2.out]; exact heap_alloc_old _ _ hq)
  have Hnow2 := Lib.hid hnow2
  clear hnow2
  obtain ⟨full, hfull⟩ : ∃ b : Bool, b = decide (kk = 0 ∧ D.room - (x.b.length : Int) < (bs.length : Int)) := ⟨_, rfl⟩
  have Hfull := Lib.hid hfull
  have Hkk := Lib.hid hkk
  clear hfull hkk hkk0
  go_upto_block 0 with fail
  go_cut [] (fun wx => wx = w1)
  case first =>
    rcases Hkk.out with rfl | rfl | rfl <;> (go_wp2_with fail; go_meet; exact rfl)
  obtain ⟨wz, hwz⟩ : ∃ x, x = wc := ⟨_, rfl⟩
  rw [hcut] at hwz ⊢
  clear hcut hwz
  go_upto_region 36 with fail
  rw [← Hw2.out, ← Hp.out]
  go_upto_region 38 with fail
  go_cut [123] (fun b wx => b = .bool full ∧ Below w2.heap.size w2 wx)
  case first =>
    rcases Hkk.out with rfl | k12
    · have hff : decide (D.room - (x.b.length : Int) < (bs.length : Int)) = full := by rw [Hfull.out]; simp
      go_region_held3 (fun W => W.cell? ⟨s + 1, 0, none⟩ = some (.int .i64 0) ∧ W.cell? ⟨s + 1, 3, none⟩ = some (.slice aB bs.length cB) ∧ W.cell? ⟨s, 12, none⟩ = some (.int .i64 D.room) ∧ W.cell? ⟨p, 0, none⟩ = some (.slice a0 ls.length c0) ∧ W.cell? ⟨p, 1, none⟩ = some (.bool x.fresh) ∧ W.cell? ⟨p, 2, none⟩ = some (.slice a2 lm.length c2))
        (first | exact ⟨cell_thru (w := w2.drew) y0 hb5, cell_thru (w := w2.drew) y3 hb5, cell_thru (w := w2.drew) z12 hb5, cell_thru (w := w2.drew) p0 hb5, cell_thru (w := w2.drew) p1 hb5, cell_thru (w := w2.drew) p2 hb5⟩ | exact ⟨y0, y3, z12, p0, p1, p2⟩)
        (first | (go_at_call 31; refine (Hnow2.out).mono ?_; rintro e w5 ⟨v5, rfl, ho5, hb5⟩; obtain ⟨a5, c5, rfl, hc5, hm5, hr5, ho5'⟩ := ho5.shape x.b.length rfl))
      all_goals
        go_wp2_with fail
        go_meet
        exact ⟨rfl, ((Below.refl w2.heap.size w2).drew).trans hb5⟩
    · have k0' : (kk == 0) = false := by simp; omega
      have hff : full = false := by rw [Hfull.out]; exact decide_eq_false (by omega)
      subst hff
      go_region
      go_wp2_with fail
      go_meet
      exact ⟨rfl, (Below.refl w2.heap.size w2).drew⟩
  obtain ⟨h123, hbx⟩ := hcut
  obtain ⟨wa, hwa⟩ : ∃ y, y = wc := ⟨_, rfl⟩
  subst hwa
  subst h123
  have hda := HD2.out.keep hbx
  have hka : ∀ q, q < w1.heap.size → wa.heap[q]? = w1.heap[q]? := fun q hq => (hbx.block q (Nat.lt_of_lt_of_le hq Hb2.out.size)).trans (Hb2.out.block q hq)
  have hma : RfM (okx ok s) wa vs us D := HM1.out.mono fun q hq hlt => ⟨hka q hlt, hq⟩
  have Hda := Lib.hid hda
  have Hma := Lib.hid hma
  have Hka := Lib.hid hka
  have Hbx := Lib.hid hbx
  clear hda hma hka hbx
  cases full
  case true =>
    have hf : kk = 0 ∧ D.room - (x.b.length : Int) < (bs.length : Int) := by have := Hfull.out; simpa using this.symm
    have hds : Dk.dstep D (kk, (k : Int), nn, bs, ks) = (D, [], 40) := by
      obtain ⟨rfl, h2⟩ := hf
      show ((Dk.app D (k : Int) bs).1, [], (Dk.app D (k : Int) bs).2) = _
      unfold Dk.app
      rw [He.out, if_neg (by decide), Int.toNat_natCast, ← Hx.out, if_pos h2]
    have Hds := Lib.hid hds
    clear hf hds
    go_wp2_with (first | (refine wpList_loadRow rfl _ _ rfl s rfl (Dk.rcells vs us D) _ (0, 0) _ Hda.out.d Try.underlying52 rfl (H16.out _ _ _) ?_) | (refine wpList_storeRow rfl _ _ _ rfl (s + 1 + 1) rfl zrow (Dk.rcells vs us D) rfl _ Hda.out.z (H16.out _ _ _) (by rfl) Hone1.out ?_))
    exact Hfinal.out wa vs us D _ 40 [] _ Hda.out Hma.out (Bt.nil _ _) Hds.out rfl rfl rfl
  have hdoa := Hda.out
  rw [HO.out] at hdoa
  obtain ⟨ya0, ya1, ya2, ya3, ya4⟩ := hdoa.sure
  obtain ⟨_, _, _, _, _, _, _, _, _, _, _, _, za12, za13, za14, za15⟩ := rcell_facts Hda.out.d
  have zaf : ∀ o, wa.frozen? ⟨s, o, none⟩ = false := fun o => by simp [World.frozen?, Hda.out.d]
  obtain ⟨f, hf⟩ : ∃ f, f = D.fuse := ⟨_, rfl⟩
  have hf0 : 0 ≤ f := by rw [hf]; exact hok.fuse0
  have hf1 : f ≤ 9223372036854775807 := by rw [hf]; exact hok.fuse1
  rw [← hf] at za14
  obtain ⟨fails, hfails⟩ : ∃ b : Bool, b = (f == 1) := ⟨_, rfl⟩
  have hfe : (f == 1) = fails := hfails.symm
  have Hfails := Lib.hid hfails
  have Hf := Lib.hid hf
  have Hz15 := Lib.hid za15
  clear hdoa hfails hf q12 q13 q14 q15 z12 z13 z14 z15 za12 za15 r0 r1 r2 o0 o1 o2 o3 o4 y0 y1 y2 y3 y4 bf zf
  go_upto_if 130 with fail
  go_cut [] (fun wx => DoM w wx s (Dk.rcells vs us { D with fuse := max 0 (f - 1) }) O ∧ Only (· = s) wa wx)
  case first =>
    by_cases hp0 : 0 < f
    · have hp0' : decide (0 < f) = true := by simpa using hp0
      have hw : IntKind.i64.wrap (f - 1) = f - 1 := IntWalk.i64_in _ (by omega)
      have hmx : max 0 (f - 1) = f - 1 := by omega
      have Hmx := Lib.hid hmx
      clear hmx
      go_wp2_with fail
      go_meet
      have h1 := Hda.out.set 14 (.int .i64 (f - 1))
      rw [Dk.rset_fuse] at h1
      exact ⟨by rw [Hmx.out]; exact h1, Only.setCell (S := (· = s)) (Only.refl _ wa) (p := ⟨s, 14, none⟩) (.inl rfl) _⟩
    · have hp0' : decide (0 < f) = false := by simpa using hp0
      have hmx : max 0 (f - 1) = D.fuse := by have := Hf.out; omega
      have Hmx := Lib.hid hmx
      clear hmx
      go_wp2_with fail
      go_meet
      exact ⟨by rw [Hmx.out]; exact Hda.out, Only.refl _ _⟩
  obtain ⟨hdb, hob⟩ := hcut
  obtain ⟨wb, hwb⟩ : ∃ y, y = wc := ⟨_, rfl⟩
  subst hwb
  have hdob := hdb
  rw [HO.out] at hdob
  obtain ⟨yb0, yb1, yb2, yb3, yb4⟩ := hdob.sure
  have hpl : p < w2.heap.size := cell_lt p0
  have hhb : wb.heap[p]? = some (.cells #[.slice a0 ls.length c0, .bool x.fresh, .slice a2 lm.length c2] 49 (0, 0)) := by
    rw [hob.block p (Nat.lt_of_lt_of_le hpl Hbx.out.size) (by omega), Hbx.out.block p hpl]; exact Hh2.out
  have pb0 : wb.cell? ⟨p, 0, none⟩ = some (.slice a0 ls.length c0) := by simp [World.cell?, hhb]
  have pb1 : wb.cell? ⟨p, 1, none⟩ = some (.bool x.fresh) := by simp [World.cell?, hhb]
  have pb2 : wb.cell? ⟨p, 2, none⟩ = some (.slice a2 lm.length c2) := by simp [World.cell?, hhb]
  have pbf : ∀ o, wb.frozen? ⟨p, o, none⟩ = false := fun o => by simp [World.frozen?, hhb]
  have hkb : ∀ q, q < w1.heap.size → (q < s ∨ s + 3 ≤ q) → wb.heap[q]? = w1.heap[q]? := fun q hq hh => (hob.block q (Nat.lt_of_lt_of_le hq (by have := Hka.out; have h1 := Hb2.out.size; have h2 := Hbx.out.size; omega)) (by omega)).trans (Hka.out q hq)
  have hsb0 : Bt (fun q => okx ok s q ∧ q ≠ p) wb (.slice a0 ls.length c0) (Dk.rsafe x) := ⟨a0, c0, by rw [Hls.out], by rw [← Hls.out]; exact hc0, hm0, by rw [← Hls.out]; exact Hs0.out.mono (by decide) fun q hq hlt => ⟨hkb q hlt (by rcases hq with h | h; exact .inl h.2; exact .inr h), hq, by have := Hp.out; omega⟩⟩
  have hsb2 : Bt (fun q => okx ok s q ∧ q ≠ p) wb (.slice a2 lm.length c2) (Dk.rmore x) := ⟨a2, c2, by rw [Hlm.out], by rw [← Hlm.out]; exact hc2, hm2, by rw [← Hlm.out]; exact Hs2.out.mono (by decide) fun q hq hlt => ⟨hkb q hlt (by rcases hq with h | h; exact .inl h.2; exact .inr h), hq, by have := Hp.out; omega⟩⟩
  have hnowb := Hnow.out wb hkb
  have Hnowb := Lib.hid hnowb
  have Hdb := Lib.hid hdb
  have Hob := Lib.hid hob
  have Hhb := Lib.hid hhb
  have Hkb := Lib.hid hkb
  have Hsb0 := Lib.hid hsb0
  have Hsb2 := Lib.hid hsb2
  obtain ⟨x', hx'⟩ : ∃ y, y = swT x kk bs f := ⟨_, rfl⟩
  have Hx' := Lib.hid hx'
  clear hdob hdb hob hhb hkb hnowb hsb0 hsb2 p0 p1 p2 pf za14 zaf ya0 ya1 ya2 ya3 ya4 hx'
  go_upto_block 3 with fail
  go_cut [] (fun wx => SwPost ok s p wb wx x')
  case first =>
    rcases Hkk.out with rfl | rfl | rfl
    · have hpb : p < wb.heap.size := cell_lt pb0
      have hsm : Sl EU8 (fun b => some b ≠ (Value.slice (some ⟨wb.drew.heap.size, 0, none⟩) 0 0).ownBlock) (wb.drew.alloc (.cells #[] 5)) a2 lm := by
        obtain ⟨_, _, e, _, _, h⟩ := Hsb2.out
        simp only [Value.slice.injEq] at e
        obtain ⟨rfl, _, _⟩ := e
        rw [Hlm.out]
        exact h.mono (by decide) fun q hq hlt => ⟨heap_alloc_old wb.drew _ hlt, by simp [Value.ownBlock]; omega⟩
      have hsb : Sl EU8 (fun _ => True) wb aB bs := hsB.mono (by decide) fun q _ hlt => ⟨Hdb.out.below.block q (by have := Hs.out; omega), trivial⟩
      have hxe : x' = { x with b := x.b ++ bs } := by rw [Hx'.out]; rfl
      have Hxe := Lib.hid hxe
      have ym3 : (wb.alloc (.cells #[] 5)).cell? ⟨s + 1, 3, none⟩ = some (.slice aB bs.length cB) := cell_thru yb3 (alloc_below _ _)
      have pm2 : (wb.alloc (.cells #[] 5)).cell? ⟨p, 2, none⟩ = some (.slice a2 lm.length c2) := cell_thru pb2 (alloc_below _ _)
      have Hsm := Lib.hid hsm
      have Hsb := Lib.hid hsb
      clear hxe hsm hsb
      go_upto_region 45 with fail
      go_region_law (first
        | ((rw [if_pos (by simp [Region.wanted])]); (refine step_app (l2 := lm) (m := lm.length) (base := wb.heap.size) EU8 (by rfl) (by rfl) (by rfl) ti_bytes (own_empty EU8 5 wb.drew (by decide)) rfl Hsm.out (by simp [maxLen]; omega) (by simp; omega) (by simp) ?_; intro v4 w4 ho4 hg4 hv4 hb4; have hbx4 : Below wb.heap.size wb w4 := (((Below.refl wb.heap.size wb).drew).alloc (Nat.le_refl _) _).trans hb4; have sb4 := cell_thru yb3 hbx4))
        | ((rw [if_pos (by simp [Region.wanted])]); (refine step_app (l2 := bs) (m := bs.length) (base := wb.heap.size) EU8 (by rfl) (by rfl) (by rfl) ti_bytes ho4 rfl (Hsb.out.mono (by decide) fun q _ hlt => ⟨hbx4.block q hlt, fun e => by have := (ho4.lt q e.symm).1; omega⟩) (by simp [maxLen]; omega) (by simp; omega) hbx4.size ?_; intro v5 w5 ho5 hg5 hv5 hb5; have hbx5 : Below wb.heap.size wb w5 := hbx4.trans hb5; obtain ⟨a5, c5, rfl, hc5, hm5, hr5, ho5'⟩ := ho5.shape (lm.length + bs.length) (by simp); have k2 := cell_thru pb2 hbx5; have kf := (hbx5.frozen (p := ⟨p, 2, none⟩) hpb).trans (pbf 2))))
      all_goals
        go_wp2_with fail
        go_meet
        have hh5 : w5.heap[p]? = _ := (hbx5.block p hpb).trans Hhb.out
        have h1 := heap_set hh5 2 (.slice a5 (lm.length + bs.length) c5)
        have ho : Only (· = p) w5 (w5.setCell ⟨p, 2, none⟩ (.slice a5 (lm.length + bs.length) c5)) := Only.setCell (S := (· = p)) (Only.refl _ _) (p := ⟨p, 2, none⟩) (.inl rfl) _
        rw [Hxe.out]
        have hsf : x.safe ≤ x.b.length := by rw [Hx.out]; exact hok.safe k
        have e1 : Dk.rsafe { x with b := x.b ++ bs } = Dk.rsafe x := by
          unfold Dk.rsafe
          simp only
          rw [List.take_append_of_le_length hsf]
        have e2 : Dk.rmore { x with b := x.b ++ bs } = lm ++ bs := by
          rw [Hlm.out]
          unfold Dk.rmore
          simp only
          split
          · rfl
          · rw [List.drop_append_of_le_length hsf]
        refine ⟨_, _, h1, ?_, ?_, (Below.only (S := (· = p)) hbx5).trans ho fun _ _ h => h⟩
        · rw [e1]
          exact Hsb0.out.mono fun q hq hlt => ⟨(ho.block q (Nat.lt_of_lt_of_le hlt hbx5.size) hq.2).trans (hbx5.block q hlt), hq⟩
        · rw [e2]
          exact ho5'.bt.mono fun q hq hlt => ⟨ho.block q hlt (by omega), .inr (by omega), by omega⟩
    · go_wp2_with fail
      go_meet
      have h1 := heap_set (heap_set Hhb.out 1 (.bool true)) 2 (.slice none 0 0)
      have ho : Only (· = p) wb ((wb.setCell ⟨p, 1, none⟩ (.bool true)).setCell ⟨p, 2, none⟩ (.slice none 0 0)) := (Only.setCell (S := (· = p)) (Only.refl _ _) (p := ⟨p, 1, none⟩) (.inl rfl) _).setCell (p := ⟨p, 2, none⟩) (.inl rfl) _
      have hxe : x' = Dk.clearT x := by rw [Hx'.out]; rfl
      rw [hxe]
      refine ⟨_, _, h1, ?_, Bt.nil _ _, ho⟩
      have e : Dk.rsafe (Dk.clearT x) = Dk.rsafe x := rfl
      rw [e]
      exact Hsb0.out.mono fun q hq hlt => ⟨ho.block q hlt hq.2, hq⟩
    · cases fails
      · have hf1' : f ≠ 1 := by have := Hfails.out; simpa using this.symm
        have hxe : x' = Dk.flushT x := by rw [Hx'.out]; unfold swT; rw [if_neg (by decide), if_neg (by decide), if_neg hf1']
        have Hxe := Lib.hid hxe
        clear hxe hf1'
        go_wp2_with fail
        refine (Hnowb.out).mono ?_
        rintro e w5 ⟨v5, rfl, ho5, hb5⟩
        obtain ⟨a5, c5, rfl, hc5, hm5, hr5, ho5'⟩ := ho5.shape x.b.length rfl
        have pc0 := cell_thru pb0 hb5
        have pc1 := cell_thru pb1 hb5
        have pc2 := cell_thru pb2 hb5
        have pcf : ∀ o, w5.frozen? ⟨p, o, none⟩ = false := fun o => (hb5.frozen (p := ⟨p, o, none⟩) (cell_lt pb0)).trans (pbf o)
        go_wp2_with fail
        go_meet
        have hpb : p < wb.heap.size := cell_lt pb0
        have hh5 : w5.heap[p]? = _ := (hb5.block p hpb).trans Hhb.out
        have h1 := heap_set (heap_set (heap_set hh5 0 (.slice a5 x.b.length c5)) 1 (.bool false)) 2 (.slice none 0 0)
        have ho : Only (· = p) w5 (((w5.setCell ⟨p, 0, none⟩ (.slice a5 x.b.length c5)).setCell ⟨p, 1, none⟩ (.bool false)).setCell ⟨p, 2, none⟩ (.slice none 0 0)) := ((Only.setCell (S := (· = p)) (Only.refl _ _) (p := ⟨p, 0, none⟩) (.inl rfl) _).setCell (p := ⟨p, 1, none⟩) (.inl rfl) _).setCell (p := ⟨p, 2, none⟩) (.inl rfl) _
        rw [Hxe.out]
        have e1 : Dk.rsafe (Dk.flushT x) = x.b := by unfold Dk.rsafe Dk.flushT; simp
        have e2 : Dk.rmore (Dk.flushT x) = [] := by unfold Dk.rmore Dk.flushT; simp
        refine ⟨_, _, h1, ?_, ?_, (Below.only (S := (· = p)) hb5).trans ho fun _ _ h => h⟩
        · rw [e1]
          exact ho5'.bt.mono fun q hq hlt => ⟨ho.block q hlt (by omega), .inr (by omega), by omega⟩
        · rw [e2]; exact Bt.nil _ _
      · have hf1' : f = 1 := by have := Hfails.out; simpa using this.symm
        have hxe : x' = x := by rw [Hx'.out]; unfold swT; rw [if_neg (by decide), if_neg (by decide), if_pos hf1']
        have Hxe := Lib.hid hxe
        clear hxe hf1'
        go_wp2_with fail
        go_meet
        rw [Hxe.out]
        exact ⟨_, _, Hhb.out, Hsb0.out, Hsb2.out, Only.refl _ _⟩
  obtain ⟨v1, u1, hhc, hv1, hu1, hoc⟩ := hcut
  obtain ⟨wd, hwd⟩ : ∃ y, y = wc := ⟨_, rfl⟩
  subst hwd
  obtain ⟨b0, d0, rfl, hd0, hd0m, hb0s⟩ := hv1
  obtain ⟨b2, d2, rfl, hd2, hd2m, hb2s⟩ := hu1
  have hdd : DoM w wd s (Dk.rcells vs us { D with fuse := max 0 (f - 1) }) O := by
    have h1 := Hdb.out
    have hz := h1.size
    exact ⟨Nat.le_trans hz hoc.size, h1.below.trans (hoc.below (by omega) fun q hq => by omega), by rw [hoc.block s (by omega) (by omega)]; exact h1.d, by rw [hoc.block (s + 1) (by omega) (by omega)]; exact h1.o, by rw [hoc.block (s + 1 + 1) (by omega) (by omega)]; exact h1.z⟩
  have hddo := hdd
  rw [HO.out] at hddo
  obtain ⟨yd0, yd1, yd2, yd3, yd4⟩ := hddo.sure
  obtain ⟨_, _, _, _, _, _, _, _, _, _, _, _, _, zd13, _, zd15⟩ := rcell_facts hdd.d
  have zdf : ∀ o, wd.frozen? ⟨s, o, none⟩ = false := fun o => by simp [World.frozen?, hdd.d]
  have pd0 : wd.cell? ⟨p, 0, none⟩ = some (.slice b0 (Dk.rsafe x').length d0) := by simp [World.cell?, hhc]
  have pd1 : wd.cell? ⟨p, 1, none⟩ = some (.bool x'.fresh) := by simp [World.cell?, hhc]
  have pd2 : wd.cell? ⟨p, 2, none⟩ = some (.slice b2 (Dk.rmore x').length d2) := by simp [World.cell?, hhc]
  have rd0 : ∃ v, wd.cell? ⟨s, k * 3, none⟩ = some v := ⟨_, by simp [World.cell?, hdd.d, Dk.rget_s hk4]; rfl⟩
  have rd1 : ∃ v, wd.cell? ⟨s, k * 3 + 1, none⟩ = some v := ⟨_, by simp [World.cell?, hdd.d, Dk.rget_c hk4]; rfl⟩
  have rd2 : ∃ v, wd.cell? ⟨s, k * 3 + 2, none⟩ = some v := ⟨_, by simp [World.cell?, hdd.d, Dk.rget_m hk4]; rfl⟩
  obtain ⟨g0, rd0⟩ := rd0
  obtain ⟨g1, rd1⟩ := rd1
  obtain ⟨g2, rd2⟩ := rd2
  have Hdd := Lib.hid hdd
  have Hhc := Lib.hid hhc
  have Hoc := Lib.hid hoc
  have Hb0s := Lib.hid hb0s
  have Hb2s := Lib.hid hb2s
  clear hdd hddo hhc hoc hb0s hb2s yb0 yb1 yb2 yb3 yb4 pb0 pb1 pb2 pbf
  have hds := dstep_main D k He.out kk nn bs ks Hkk.out (by rw [← Hx.out]; intro h; have := Hfull.out; rw [decide_eq_true h] at this; exact absurd this (by decide))
  rw [← Hx.out, ← Hf.out, ← Hx'.out] at hds
  have hset := ((Hdd.out.set (k * 3) (.slice b0 (Dk.rsafe x').length d0)).set (k * 3 + 1) (.bool x'.fresh)).set (k * 3 + 2) (.slice b2 (Dk.rmore x').length d2)
  rw [Dk.rset_s hk4, Dk.rset_c hk4, Dk.rset_m hk4] at hset
  have hsl : ∀ D' : Dk.Dsk, (∀ i, D'.t i = Dk.upd D.t k x' i) → RfM (okx ok s) wd (Dk.upd vs k (.slice b0 (Dk.rsafe x').length d0)) (Dk.upd us k (.slice b2 (Dk.rmore x').length d2)) D' := fun D' hD => by
    have hm := HM1.out
    have hk1 : ∀ q, q < w1.heap.size → okx ok s q → wd.heap[q]? = w1.heap[q]? := fun q hq hh => (Hoc.out.block q (by have := Hkb.out q hq (by rcases hh with h | h; exact .inl h.2; exact .inr h); have h1 := Hob.out.size; have h2 := Hbx.out.size; have h3 := Hb2.out.size; omega) (by have := Hp.out; omega)).trans (Hkb.out q hq (by rcases hh with h | h; exact .inl h.2; exact .inr h))
    refine ⟨fun i hi => ?_, fun i hi => ?_⟩ <;> (rw [hD]; by_cases hik : i = k)
    · subst hik; rw [Dk.upd_same, Dk.upd_same]; exact ⟨b0, d0, rfl, hd0, hd0m, Hb0s.out.mono (by decide) fun q hq _ => ⟨rfl, hq.1⟩⟩
    · rw [Dk.upd_other _ _ _ _ hik, Dk.upd_other _ _ _ _ hik]; exact (hm.sa i hi).mono fun q hq hlt => ⟨hk1 q hlt hq, hq⟩
    · subst hik; rw [Dk.upd_same, Dk.upd_same]; exact ⟨b2, d2, rfl, hd2, hd2m, Hb2s.out.mono (by decide) fun q hq _ => ⟨rfl, hq.1⟩⟩
    · rw [Dk.upd_other _ _ _ _ hik, Dk.upd_other _ _ _ _ hik]; exact (hm.mo i hi).mono fun q hq hlt => ⟨hk1 q hlt hq, hq⟩
  have Hds := Lib.hid hds
  have Hset := Lib.hid hset
  have Hsl := Lib.hid hsl
  have hwa : IntKind.i64.wrap (D.acts + 1) = D.acts + 1 := IntWalk.i64_in _ (by omega)
  clear hds hset hsl
  cases fails
  · have hf1' : f ≠ 1 := by have := Hfails.out; simpa using this.symm
    obtain ⟨D', hD'⟩ : ∃ D', D' = ({ Dk.setT D k x' with fuse := max 0 (f - 1), acts := D.acts + 1 } : Dk.Dsk) := ⟨_, rfl⟩
    have hst := Hset.out.set 13 (.int .i64 (D.acts + 1))
    rw [Dk.rset_acts, Dk.rcells_congr (D' := D') (fun _ _ => rfl) (fun _ _ => rfl) (fun i hi => by rw [hD']; by_cases hik : i = k; (subst hik; simp only [Dk.setT, Dk.upd_same]); (simp only [Dk.setT, Dk.upd_other _ _ _ _ hik])) (by rw [hD']; rfl) (by rw [hD']) (by rw [hD']; rfl) (by rw [hD']; rfl)] at hst
    have hon := (Hsl.out D' (fun i => by rw [hD']; rfl)).one
    have hrm := (((((Hsl.out D' (fun i => by rw [hD']; rfl)).set0 (k * 3) (.slice b0 (Dk.rsafe x').length d0)).set0 (k * 3 + 1) (.bool x'.fresh)).set0 (k * 3 + 2) (.slice b2 (Dk.rmore x').length d2)).set0 13 (.int .i64 (D.acts + 1)))
    have hds := Hds.out
    rw [if_neg hf1', ← hD'] at hds
    obtain ⟨we, hwe⟩ : ∃ y, y = ((((wd.setCell ⟨s, k * 3, none⟩ (.slice b0 (Dk.rsafe x').length d0)).setCell ⟨s, k * 3 + 1, none⟩ (.bool x'.fresh)).setCell ⟨s, k * 3 + 2, none⟩ (.slice b2 (Dk.rmore x').length d2)).setCell ⟨s, 13, none⟩ (.int .i64 (D.acts + 1))) := ⟨_, rfl⟩
    rw [← hwe] at hst hrm
    have Hwe := Lib.hid hwe
    have Hst := Lib.hid hst
    have Hon := Lib.hid hon
    have Hrm := Lib.hid hrm
    have Hds' := Lib.hid hds
    clear hst hon hrm hds hD' hf1' hwe
    go_upto_region 57 with fail
    rw [← Hwe.out]
    clear Hwe
    go_wp2_with (first | (refine wpList_loadRow rfl _ _ rfl s rfl (Dk.rcells (Dk.upd vs k (.slice b0 (Dk.rsafe x').length d0)) (Dk.upd us k (.slice b2 (Dk.rmore x').length d2)) D') _ (0, 0) _ Hst.out.d Try.underlying52 rfl (H16.out _ _ _) ?_) | (refine wpList_storeRow rfl _ _ _ rfl (s + 1 + 1) rfl zrow (Dk.rcells (Dk.upd vs k (.slice b0 (Dk.rsafe x').length d0)) (Dk.upd us k (.slice b2 (Dk.rmore x').length d2)) D') rfl _ Hst.out.z (H16.out _ _ _) (by rfl) Hon.out ?_))
    exact Hfinal.out _ _ _ D' _ 0 [] _ Hst.out Hrm.out (Bt.nil _ _) Hds'.out rfl rfl rfl
  · have hf1' : f = 1 := by have := Hfails.out; simpa using this.symm
    obtain ⟨D', hD'⟩ : ∃ D', D' = ({ Dk.setT D k x' with fuse := 0, down := true } : Dk.Dsk) := ⟨_, rfl⟩
    have hst := Hset.out.set 15 (.bool true)
    rw [Dk.rset_down, Dk.rcells_congr (D' := D') (fun _ _ => rfl) (fun _ _ => rfl) (fun i hi => by rw [hD']; by_cases hik : i = k; (subst hik; simp only [Dk.setT, Dk.upd_same]); (simp only [Dk.setT, Dk.upd_other _ _ _ _ hik])) (by rw [hD']; rfl) (by rw [hD']; rfl) (by rw [hD', hf1']; rfl) (by rw [hD'])] at hst
    have hon := (Hsl.out D' (fun i => by rw [hD']; rfl)).one
    have hrm := (((((Hsl.out D' (fun i => by rw [hD']; rfl)).set0 (k * 3) (.slice b0 (Dk.rsafe x').length d0)).set0 (k * 3 + 1) (.bool x'.fresh)).set0 (k * 3 + 2) (.slice b2 (Dk.rmore x').length d2)).set0 15 (.bool true))
    have hds := Hds.out
    rw [if_pos hf1', ← hD'] at hds
    obtain ⟨we, hwe⟩ : ∃ y, y = ((((wd.setCell ⟨s, k * 3, none⟩ (.slice b0 (Dk.rsafe x').length d0)).setCell ⟨s, k * 3 + 1, none⟩ (.bool x'.fresh)).setCell ⟨s, k * 3 + 2, none⟩ (.slice b2 (Dk.rmore x').length d2)).setCell ⟨s, 15, none⟩ (.bool true)) := ⟨_, rfl⟩
    rw [← hwe] at hst hrm
    have Hwe := Lib.hid hwe
    have Hst := Lib.hid hst
    have Hon := Lib.hid hon
    have Hrm := Lib.hid hrm
    have Hds' := Lib.hid hds
    clear hst hon hrm hds hD' hf1' hwe
    go_upto_region 55 with fail
    rw [← Hwe.out]
    clear Hwe
    go_wp2_with (first | (refine wpList_loadRow rfl _ _ rfl s rfl (Dk.rcells (Dk.upd vs k (.slice b0 (Dk.rsafe x').length d0)) (Dk.upd us k (.slice b2 (Dk.rmore x').length d2)) D') _ (0, 0) _ Hst.out.d Try.underlying52 rfl (H16.out _ _ _) ?_) | (refine wpList_storeRow rfl _ _ _ rfl (s + 1 + 1) rfl zrow (Dk.rcells (Dk.upd vs k (.slice b0 (Dk.rsafe x').length d0)) (Dk.upd us k (.slice b2 (Dk.rmore x').length d2)) D') rfl _ Hst.out.z (H16.out _ _ _) (by rfl) Hon.out ?_))
    exact Hfinal.out _ _ _ D' _ 2 [] _ Hst.out Hrm.out (Bt.nil _ _) Hds'.out rfl rfl rfl
end Go.Proofs.Ytennjoegjghlaaa

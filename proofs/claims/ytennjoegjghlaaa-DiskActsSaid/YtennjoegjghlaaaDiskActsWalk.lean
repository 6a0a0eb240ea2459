
/-
  The walk of the law 'DiskActs'.
-/
import Derived.Test.YtennjoegjghlaaaDiskAct
import Derived.Test.YtennjoegjghlaaaDiskOp
import Derived.Test.YtennjoegjghlaaaDiskDoC
import Derived.Deep.CutBlock
import Derived.Deep.RegionLaw
namespace Go.Proofs.Ytennjoegjghlaaa
open Go.RowKit
set_option linter.unusedVariables false

/-- what the reference's step does (proved in DiskDo) -/
def DoLaw : Prop := ∀ (ok : Nat → Prop) (D : Dk.Dsk) (vs us : Nat → Value) (kk tt nn : Int) (aB : Option Addr) (cB : Nat) (bs : List (BitVec 8)) (aK : Option Addr) (cK : Nat) (ks : List Int) (w : World),
    RfM ok w vs us D → Dk.Ok D → Dk.Fr D → (0 ≤ D.acts ∧ D.acts ≤ 9000000000000000000) → Sl EU8 (fun _ => True) w aB bs → bs.length ≤ 1000 → Sl EInt (fun _ => True) w aK ks → ks.length ≤ 1000 → (-9223372036854775808 ≤ nn ∧ nn ≤ 9223372036854775807) →
    Calls Try.prog 28 #[.agg (Dk.rcells vs us D), .agg #[.int .i64 kk, .int .i64 tt, .int .i64 nn, .slice aB bs.length cB, .slice aK ks.length cK]] w (DoPost ok w D (kk, tt, nn, bs, ks))

set_option maxRecDepth 100000 in
set_option maxHeartbeats 6400000 in
theorem acts_walk (HDo : DoLaw) (room : Int) (a : Option Addr) (c : Nat) (ts : List DStep) (w : World) (hro : -9223372036854775808 ≤ room ∧ room ≤ 9223372036854775807) (hs : Sl EStep (fun _ => True) w a ts) (hc : ts.length ≤ c) (hm : c ≤ maxLen) :
    Calls Try.prog 7 #[.int .i64 room, .slice a ts.length c] w fun e w' => e = .returned (.bool true) ∧ Below w.heap.size w w' := by
  obtain ⟨B, hB⟩ : ∃ B, B = w.heap.size := ⟨_, rfl⟩
  have HB := Lib.hid hB
  rw [← hB]
  clear hB
  have Hs := Lib.hid hs
  clear hs
  have h16 : ∀ (vs' us' : Nat → Value) (D' : Dk.Dsk), (Try.prog.info? 52).map (·.size) = some (Dk.rcells vs' us' D').size := fun vs' us' D' => by rw [show (Dk.rcells vs' us' D').size = 16 from rfl]; kernel_rfl
  have H16 := Lib.hid h16
  clear h16
  go_enter Try.func7, Try.ntmps7
  go_wp2_with fail
  refine (law16_head _).mono ?_
  rintro e w1 ⟨rfl, hb1⟩
  rw [← HB.out] at hb1
  go_wp2_with fail
  obtain ⟨g, hg⟩ : ∃ g, g = w1.heap.size := ⟨_, rfl⟩
  refine (disk_New room g _ hg.symm hro).mono ?_
  rintro e w2 ⟨rfl, hd2, hb2, hz2⟩
  have hwg : B ≤ g := by have := hb1.size; have := HB.out; omega
  have hD2 : DkOwn B (· = g) w2 g (Dk.new room) := ⟨hd2, Dk.ok_new _, fun k hk => by omega⟩
  have hbw2 := hb1.trans (hb2.mono hwg)
  have Hg := Lib.hid hg
  clear hd2 hb2 hb1 hg
  go_wp2_with fail
  refine (ref16_New room _ hro).mono ?_
  rintro e w3 ⟨rfl, hb3⟩
  have hD3 := hD2.keep hb3
  have hbw3 := hbw2.trans (hb3.mono hD2.size)
  have hrow0 : (w3.alloc (.cells zrow 52)).heap[w3.heap.size]? = some (.cells zrow 52 (0, 0)) := heap_alloc_new w3 _
  have hrnil : RfM (fun k => ¬ (k = g) ∧ k ≠ w3.heap.size ∧ k < w3.heap.size) w3 rnil rnil (Dk.new room) := ⟨fun i _ => Bt.nil _ _, fun i _ => Bt.nil _ _⟩
  have Hrow0 := Lib.hid hrow0
  have Hrnil := Lib.hid hrnil
  clear hrow0 hrnil
  go_wp2_with (refine wpList_storeRow rfl _ _ _ rfl w3.heap.size rfl zrow (Dk.rcells rnil rnil (Dk.new room)) rfl _ Hrow0.out (H16.out _ _ _) (by rfl) Hrnil.out.one ?_)
  obtain ⟨gw, hgw⟩ : ∃ g, g = w3.heap.size := ⟨_, rfl⟩
  obtain ⟨w4, hw4⟩ : ∃ x, x = (w3.alloc (.cells zrow 52)).setRow w3.heap.size (Dk.rcells rnil rnil (Dk.new room)) := ⟨_, rfl⟩
  have hb34 : Below w3.heap.size w3 w4 := by rw [hw4]; exact below_setRow (alloc_below w3 _) (Nat.le_refl _) _
  have hA4 : ActsM B gw (· = g) w4 g gw (Dk.new room) (Dk.new room) rnil rnil := by
    have hgl := hD3.flt g rfl
    refine ⟨hD3.keep hb34, by rw [hw4, hgw]; exact setRow_heap _ _ zrow _ _ _ Hrow0.out, fun h => by omega, by rw [hgw]; exact hD3.size, ⟨fun i _ => Bt.nil _ _, fun i _ => Bt.nil _ _⟩, by rw [hgw]; exact hb34.size⟩
  have hbw4 := hbw3.trans (hb34.mono hD3.size)
  rw [show (#[.slice none 0 0, .bool false, .slice none 0 0, .slice none 0 0, .bool false, .slice none 0 0, .slice none 0 0, .bool false, .slice none 0 0, .slice none 0 0, .bool false, .slice none 0 0, .int .i64 0, .int .i64 0, .int .i64 0, .bool false] : Array Value) = zrow from rfl, ← hw4, ← hgw]
  have HA4 := Lib.hid hA4
  have Hbw4 := Lib.hid hbw4
  clear hw4 hgw hb34 hA4 hbw4 hbw3 hbw2 hD2 hD3 hb3 Hrow0 Hrnil hz2
  go_wp2_with fail
  go_loopw [7] (fun i wr => ∃ (j L : Nat) (F : Nat → Prop) (D : Dk.Dsk) (vs us : Nat → Value), i = .int .i64 j ∧ j ≤ ts.length ∧ j ≤ 80 ∧ ActsM B L F wr g gw D D vs us ∧ Dk.Fr D ∧ (0 ≤ D.acts ∧ D.acts ≤ j) ∧ Below B w wr) (fun i _ => 80 - (intOf i).toNat)
  case atStart => exact ⟨0, gw, _, _, _, _, rfl, Nat.zero_le _, by decide, HA4.out, Dk.fr_new _, ⟨Int.le_refl _, Int.le_refl _⟩, Hbw4.out⟩
  case round =>
    clear HA4 Hbw4
    obtain ⟨j, L, F, D, vs, us, rfl, hj, hj80, hA, hfr, hac, hbw⟩ := hrel
    by_cases hlt : j < ts.length ∧ j < 80
    · obtain ⟨hlt, hj8⟩ := hlt
      have hji : (j : Int) < (ts.length : Int) := by omega
      have hj4' : decide ((j : Int) < 80) = true := by simp; omega
      obtain ⟨b5, o5, aB, cB, aK, cK, rfl, p0, p1, p2, p3, p4, q0, q1, q2, hcB, hmB, hsB, hcK, hmK, hsK⟩ := sl_step Hs.out j hlt
      have hbk : wr.heap[b5]? = w.heap[b5]? := hbw.block b5 (by rw [HB.out]; exact cell_lt p0)
      replace p0 := (cell_keep hbk).trans p0
      replace p1 := (cell_keep hbk).trans p1
      replace p2 := (cell_keep hbk).trans p2
      replace p3 := (cell_keep hbk).trans p3
      replace p4 := (cell_keep hbk).trans p4
      obtain ⟨t, ht⟩ : ∃ t, t = ts[j] := ⟨_, rfl⟩
      rw [← ht] at p0 p1 p2 p3 p4 q0 q1 q2 hcB hsB hcK hsK
      clear ht hbk
      obtain ⟨kk, tt, nn, bs, ks⟩ := t
      dsimp only at p0 p1 p2 p3 p4 q0 q1 q2 hcB hsB hcK hsK
      obtain ⟨w4, hw4⟩ : ∃ x, x = wr.alloc (.cells #[.int .i64 kk, .int .i64 tt, .int .i64 nn, .slice aB bs.length cB, .slice aK ks.length cK] 45) := ⟨_, rfl⟩
      have hb4 : Below wr.heap.size wr w4 := by subst hw4; exact (Below.refl _ _).alloc (Nat.le_refl _) _
      have hh4 : w4.heap[wr.heap.size]? = some (.cells #[.int .i64 kk, .int .i64 tt, .int .i64 nn, .slice aB bs.length cB, .slice aK ks.length cK] 45 (0, 0)) := by subst hw4; exact heap_alloc_new wr _
      obtain ⟨s0, hs0⟩ : ∃ s, s = wr.heap.size := ⟨_, rfl⟩
      rw [← hs0] at hh4
      have hsg : s0 ≠ gw := by have := hA.glt; omega
      have z0 : w4.cell? ⟨s0, 0, none⟩ = some (.int .i64 kk) := by simp [World.cell?, hh4]
      have z1 : w4.cell? ⟨s0, 1, none⟩ = some (.int .i64 tt) := by simp [World.cell?, hh4]
      have z2 : w4.cell? ⟨s0, 2, none⟩ = some (.int .i64 nn) := by simp [World.cell?, hh4]
      have z3 : w4.cell? ⟨s0, 3, none⟩ = some (.slice aB bs.length cB) := by simp [World.cell?, hh4]
      have z4 : w4.cell? ⟨s0, 4, none⟩ = some (.slice aK ks.length cK) := by simp [World.cell?, hh4]
      have hA4 := hA.keep hb4
      have hbw4 := hbw.trans (hb4.mono hA.d.size)
      have hsB4 : Sl EU8 (fun k => ¬ F k) w4 aB bs := hA4.d.outside (by decide) hsB HB.out.symm hbw4
      have hsK4 : Sl EInt (fun k => ¬ F k) w4 aK ks := hA4.d.outside (by decide) hsK HB.out.symm hbw4
      have HsB0 := Lib.hid hsB
      have HsK0 := Lib.hid hsK
      have Hs0 := Lib.hid hs0
      have Hw4 := Lib.hid hw4
      have Hh4 := Lib.hid hh4
      have HA4 := Lib.hid hA4
      have Hbw4 := Lib.hid hbw4
      have HsB4 := Lib.hid hsB4
      have HsK4 := Lib.hid hsK4
      have Hfr := Lib.hid hfr
      have Hac := Lib.hid hac
      clear hs0 hh4 hsB hsK hb4 hw4 hA hbw hA4 hbw4 hsB4 hsK4 hfr hac
      go_upto_region 9 with fail
      rw [← Hw4.out, ← Hs0.out]
      clear Hw4
      by_cases hl1 : 1000 < (bs.length : Int)
      · have hl1' : decide (1000 < (bs.length : Int)) = true := by simpa using hl1
        go_wp2_with fail
        go_roundw
        case rel => exact ⟨j + 1, L, F, D, vs, us, by go_num, by omega, by omega, HA4.out, Hfr.out, ⟨Hac.out.1, by have := Hac.out.2; omega⟩, Hbw4.out⟩
        case measure => simp [intOf]; omega
      have hl1' : decide (1000 < (bs.length : Int)) = false := by simpa using hl1
      by_cases hl2 : 20 < (ks.length : Int)
      · have hl2' : decide (20 < (ks.length : Int)) = true := by simpa using hl2
        go_wp2_with fail
        go_roundw
        case rel => exact ⟨j + 1, L, F, D, vs, us, by go_num, by omega, by omega, HA4.out, Hfr.out, ⟨Hac.out.1, by have := Hac.out.2; omega⟩, Hbw4.out⟩
        case measure => simp [intOf]; omega
      have hl2' : decide (20 < (ks.length : Int)) = false := by simpa using hl2
      have hbl : bs.length ≤ 1000 := by omega
      have hkl : ks.length ≤ 1000 := by omega
      have hop : (Try.prog.info? 45).map (·.size) = some (#[.int .i64 kk, .int .i64 tt, .int .i64 nn, .slice aB bs.length cB, .slice aK ks.length cK] : Array Value).size := by kernel_rfl
      have Hop := Lib.hid hop
      clear hl1 hl2 hop
      go_upto_region 10 with fail
      clear hl1' hl2' hji hj4' p0 p1 p2 p3 p4
      go_wp2_with (first | (refine wpList_loadRow rfl _ _ rfl gw rfl (Dk.rcells vs us D) _ (0, 0) _ HA4.out.row Try.underlying52 rfl (H16.out _ _ _) ?_) | (refine wpList_loadRow rfl _ _ rfl s0 rfl _ _ (0, 0) _ Hh4.out Try.underlying45 rfl Hop.out ?_))
      refine (HDo (fun k => ¬ F k ∧ k ≠ gw) D vs us kk tt nn aB cB bs aK cK ks w4 (HA4.out.rf.mono fun k hk _ => ⟨rfl, hk.1, hk.2.1⟩) HA4.out.d.ok Hfr.out ⟨Hac.out.1, by have := Hac.out.2; omega⟩ (HsB4.out.any (by decide)) hbl (HsK4.out.any (by decide)) hkl q2).mono ?_
      rintro e w5 ⟨vs', us', vb, rfl, hM5, hBt5, hb5⟩
      obtain ⟨R, hR⟩ : ∃ R, R = Dk.dstep D (kk, tt, nn, bs, ks) := ⟨_, rfl⟩
      have hac2 := Dk.dstep_acts D (kk, tt, nn, bs, ks) Hac.out.1
      have hfr2 := Dk.dstep_fr Hfr.out (kk, tt, nn, bs, ks)
      rw [← hR] at hM5 hBt5 hac2 hfr2 ⊢
      obtain ⟨w7, hw7⟩ : ∃ x, x = ((w5.alloc (.cells zrow 52)).setRow w5.heap.size (Dk.rcells vs' us' R.1)).setRow gw (Dk.rcells vs' us' R.1) := ⟨_, rfl⟩
      obtain ⟨hA7, hb47, ho57, a1, a2, a3⟩ := acts_put HA4.out hM5 hb5 hw7
      have hBt7 : Bt (fun _ => True) w7 vb R.2.1 := by
        exact hBt5.apart ((hb5.block gw HA4.out.glt).trans HA4.out.row) (HA4.out.keep hb5).rf ho57
      have hs7 : w7.heap[s0]? = w4.heap[s0]? := (ho57.block s0 (by have := cell_lt z0; have := hb5.size; omega) hsg).trans (hb5.block s0 (cell_lt z0))
      replace z0 := (cell_keep (o := 0) hs7).trans z0
      replace z1 := (cell_keep (o := 1) hs7).trans z1
      replace z2 := (cell_keep (o := 2) hs7).trans z2
      replace z3 := (cell_keep (o := 3) hs7).trans z3
      replace z4 := (cell_keep (o := 4) hs7).trans z4
      have hone : (Dk.rcells vs' us' R.1).all (·.oneCell') = true := hM5.one
      have hbw7 := Hbw4.out.trans (hb47)
      have HR := Lib.hid hR
      have Hac2 := Lib.hid hac2
      have Hfr2 := Lib.hid hfr2
      have Hw7 := Lib.hid hw7
      have HA7 := Lib.hid hA7
      have A1 := Lib.hid a1
      have A2 := Lib.hid a2
      have A3 := Lib.hid a3
      have HBt7 := Lib.hid hBt7
      have Hone := Lib.hid hone
      have Hbw7 := Lib.hid hbw7
      have HsB7 := Lib.hid (hA7.d.outside (by decide) HsB0.out HB.out.symm hbw7)
      have HsK7 := Lib.hid (hA7.d.outside (by decide) HsK0.out HB.out.symm hbw7)
      clear hR hac2 hfr2 hw7 hA7 a1 a2 a3 hBt7 hBt5 hM5 hb5 hb47 ho57 hone hbw7 hs7
      go_upto_region 14 with (first | (refine wpList_storeRow rfl _ _ _ rfl w5.heap.size rfl zrow (Dk.rcells vs' us' R.1) rfl _ A1.out (H16.out _ _ _) (by rfl) Hone.out ?_) | (refine wpList_loadRow rfl _ _ rfl w5.heap.size rfl (Dk.rcells vs' us' R.1) _ (0, 0) _ A2.out Try.underlying52 rfl (H16.out _ _ _) ?_) | (refine wpList_storeRow rfl _ _ _ rfl gw rfl (Dk.rcells vs us D) (Dk.rcells vs' us' R.1) rfl _ A3.out (H16.out _ _ _) (by rfl) Hone.out ?_))
      rw [show (#[.slice none 0 0, .bool false, .slice none 0 0, .slice none 0 0, .bool false, .slice none 0 0, .slice none 0 0, .bool false, .slice none 0 0, .slice none 0 0, .bool false, .slice none 0 0, .int .i64 0, .int .i64 0, .int .i64 0, .bool false] : Array Value) = zrow from rfl, ← Hw7.out]
      clear Hw7 A1 A2 A3
      go_upto_block 2 with fail
      go_cut [12, 13] (fun v12 v13 wx => ActSw B g gw w R vs' us' vb v12 v13 wx)
      case first =>
        by_cases k0 : kk = 0
        · as_aux_lemma =>
            subst k0
            have HR1 := Lib.hid (show R.1 = (Dk.app D tt bs).1 by rw [HR.out]; rfl)
            have HR2 := Lib.hid (show R.2.1 = [] by rw [HR.out]; rfl)
            have HR3 := Lib.hid (show R.2.2 = (Dk.app D tt bs).2 by rw [HR.out]; rfl)
            go_wp2_with fail
            refine (ref_Copy aB _ cB bs w7 ⟨rfl, HsB7.out.any (by decide)⟩ (by omega)).mono ?_
            rintro e w8 ⟨v8, rfl, ho8, hb8⟩
            have hA8 := HA7.out.keep hb8
            have y1 := cell_thru z1 hb8
            have hbx := ho8.bx
            obtain ⟨a8, c8, rfl, hc8, hm8, hr8, ho8'⟩ := ho8.shape bs.length rfl
            have hs8 : Sl EU8 (fun k => ¬ F k) w8 a8 bs := ho8'.slB.mono (by decide) fun k hk hlt => ⟨rfl, fun hF => by have := HA7.out.d.flt k hF; omega⟩
            have HA8 := Lib.hid hA8
            have Hbx := Lib.hid hbx
            have Hs8 := Lib.hid hs8
            have Hb8 := Lib.hid hb8
            clear hA8 hbx hs8 hr8 ho8' ho8 hb8 z0 z1 z2 z3 z4
            go_wp2_with fail
            refine (disk_Append g D tt a8 _ c8 bs w8 HA8.out.d.at_ HA8.out.d.ok ⟨Hac.out.1, by have := Hac.out.2; omega⟩ rfl Hs8.out (by omega)).mono ?_
            rintro e w9 ⟨rfl, F9, ha9, ht9⟩
            obtain ⟨hA9, hb9⟩ := HA8.out.turn ht9 ha9 (Dk.ok_app HA8.out.d.ok tt bs)
            have hend : ∀ wx : World, ActsM B w5.heap.size F9 wx g gw (Dk.app D tt bs).1 R.1 vs' us' → Below B w wx → ActSw B g gw w R vs' us' vb (.slice none 0 0) (.int .i64 (Dk.app D tt bs).2) wx := fun wx hA hbx => by
              have h := HBt7.out
              refine ⟨by rw [HR3.out], by rw [HR2.out]; exact Bt.nil _ _, ?_, hbx, w5.heap.size, F9, by rw [← HR1.out] at hA; exact hA⟩
              rw [HR2.out] at h ⊢
              exact h.none
            have Hend := Lib.hid hend
            have HA9 := Lib.hid hA9
            have Hb9 := Lib.hid ((Hbw7.out.trans (Hb8.out.mono HA7.out.d.size)).trans hb9)
            rcases Hbx.out with ⟨hnil, _⟩ | ⟨g8, c8', hv8, hg8, hbx8⟩
            · have hz : bs.length = 0 := by rw [hnil]; rfl
              have hz0 : ¬ ((0 : Int) < (bs.length : Int)) := by omega
              clear hend hA9 hb9 ha9 ht9 hnil hz
              go_wp2_with fail
              go_loopw [76] (fun i wx => i = .int .i64 0 ∧ w9 = wx) (fun i _ => 0)
              case atStart => exact ⟨rfl, rfl⟩
              case round =>
                obtain ⟨rfl, rfl⟩ := hrel
                go_wp2_with fail
                go_meet
                exact Hend.out _ HA9.out Hb9.out
            · simp only [Value.slice.injEq] at hv8
              obtain ⟨rfl, _, _⟩ := hv8
              have hg8l : g8 < w8.heap.size := by obtain ⟨cs, te, hh, _⟩ := hbx8; exact (Array.getElem?_eq_some_iff.1 hh).1
              have hnF9 : ¬ F9 g8 := fun hf => by
                rcases ht9.foot g8 hf with h | h
                · have := HA7.out.d.flt g8 h; omega
                · omega
              have hng : g8 ≠ gw := by have := HA7.out.glt; omega
              have hL8 : w5.heap.size ≤ g8 := Nat.le_trans HA7.out.ll hg8
              have hbx9 : Bx w9 g8 bs.length := by
                obtain ⟨cs, te, hh, hcs⟩ := hbx8
                exact ⟨cs, te, (ht9.only.block g8 hg8l fun hF => by have := HA7.out.d.flt g8 hF; omega).trans hh, hcs⟩
              have hBg : B ≤ g8 := Nat.le_trans HA7.out.d.size hg8
              have Hbx9 := Lib.hid hbx9
              clear hend hA9 hb9 ha9 ht9 hbx8 hbx9
              go_wp2_with fail
              go_loopw [76] (fun i wx => ∃ k : Nat, k ≤ bs.length ∧ i = .int .i64 k ∧ Bx wx g8 bs.length ∧ Only (· = g8) w9 wx) (fun i _ => bs.length - (intOf i).toNat)
              case atStart => exact ⟨0, Nat.zero_le _, rfl, Hbx9.out, Only.refl _ _⟩
              case round =>
                obtain ⟨k, hk, rfl, hbx, ho⟩ := hrel
                by_cases hkl : k < bs.length
                · have hki : (k : Int) < (bs.length : Int) := by omega
                  have hk0 : (0 : Int) ≤ (k : Int) := by omega
                  obtain ⟨xx, hx⟩ := hbx.cell hkl
                  have hxf := hbx.free k
                  have Hbxn := Lib.hid (fun y => hbx.set k y)
                  have Hon := Lib.hid (fun y => ho.setCell (p := ⟨g8, k, none⟩) (.inl rfl) y)
                  clear hbx ho
                  go_wp2_with fail
                  go_roundw
                  case rel => exact ⟨k + 1, by omega, by go_num, Hbxn.out _, Hon.out _⟩
                  case measure => simp [intOf]; omega
                · have hki : ¬ ((k : Int) < (bs.length : Int)) := by omega
                  go_wp2_with fail
                  go_meet
                  exact Hend.out _ (HA9.out.only ho fun q hq => by subst hq; exact ⟨hL8, hnF9, hng⟩) (Hb9.out.trans (ho.below HA9.out.d.size fun q hq => by rw [hq]; exact hBg))
        by_cases k1 : kk = 1
        · as_aux_lemma =>
            subst k1
            have HR1 := Lib.hid (show R.1 = (Dk.clear D tt).1 by rw [HR.out]; rfl)
            have HR2 := Lib.hid (show R.2.1 = [] by rw [HR.out]; rfl)
            have HR3 := Lib.hid (show R.2.2 = (Dk.clear D tt).2 by rw [HR.out]; rfl)
            clear k0
            go_wp2_with fail
            refine (disk_Clear g D tt w7 HA7.out.d.at_ HA7.out.d.ok ⟨Hac.out.1, by have := Hac.out.2; omega⟩).mono ?_
            rintro e w8 ⟨rfl, ha8, ho8⟩
            obtain ⟨hA8, hb8⟩ := HA7.out.turn ⟨ho8, fun k hk => .inl hk⟩ ha8 (Dk.ok_clear HA7.out.d.ok tt)
            have hend : ActSw B g gw w R vs' us' vb (.slice none 0 0) (.int .i64 (Dk.clear D tt).2) w8 := by
              have h := HBt7.out
              refine ⟨by rw [HR3.out], by rw [HR2.out]; exact Bt.nil _ _, ?_, Hbw7.out.trans hb8, w5.heap.size, F, by rw [HR1.out] at hA8 ⊢; exact hA8⟩
              rw [HR2.out] at h ⊢
              exact h.none
            have Hend := Lib.hid hend
            clear hend hA8 hb8 ha8 ho8
            go_wp2_with fail
            go_meet
            exact Hend.out
        by_cases k2 : kk = 2
        · as_aux_lemma =>
            subst k2
            have HR1 := Lib.hid (show R.1 = (Dk.flush D tt).1 by rw [HR.out]; rfl)
            have HR2 := Lib.hid (show R.2.1 = [] by rw [HR.out]; rfl)
            have HR3 := Lib.hid (show R.2.2 = (Dk.flush D tt).2 by rw [HR.out]; rfl)
            clear k0 k1
            go_wp2_with fail
            refine (disk_Flush g D tt w7 HA7.out.d.at_ HA7.out.d.ok ⟨Hac.out.1, by have := Hac.out.2; omega⟩).mono ?_
            rintro e w8 ⟨rfl, ha8, ho8⟩
            obtain ⟨hA8, hb8⟩ := HA7.out.turn ⟨ho8, fun k hk => .inl hk⟩ ha8 (Dk.ok_flush HA7.out.d.ok tt)
            have hend : ActSw B g gw w R vs' us' vb (.slice none 0 0) (.int .i64 (Dk.flush D tt).2) w8 := by
              have h := HBt7.out
              refine ⟨by rw [HR3.out], by rw [HR2.out]; exact Bt.nil _ _, ?_, Hbw7.out.trans hb8, w5.heap.size, F, by rw [HR1.out] at hA8 ⊢; exact hA8⟩
              rw [HR2.out] at h ⊢
              exact h.none
            have Hend := Lib.hid hend
            clear hend hA8 hb8 ha8 ho8
            go_wp2_with fail
            go_meet
            exact Hend.out
        by_cases k3 : kk = 3
        · as_aux_lemma =>
            subst k3
            have HR1 := Lib.hid (show R.1 = D by rw [HR.out]; rfl)
            have HR2 := Lib.hid (show R.2.1 = (Dk.read D tt).1 by rw [HR.out]; rfl)
            have HR3 := Lib.hid (show R.2.2 = (Dk.read D tt).2 by rw [HR.out]; rfl)
            clear k0 k1 k2
            go_wp2_with fail
            refine (disk_Read g D tt _ w7 rfl HA7.out.d.at_ HA7.out.d.ok).mono ?_
            rintro e w8 ⟨v8, rfl, ho8, hb8⟩
            obtain ⟨n8, hn8⟩ : ∃ n, n = (Dk.read D tt).1.length := ⟨_, rfl⟩
            obtain ⟨a8, c8, rfl, hc8, hm8, hr8, _⟩ := ho8.shape n8 hn8
            have hl8 : n8 ≤ 4194304 := by rw [hn8]; exact Dk.read_len HA7.out.d.ok tt
            have Hr8 := Lib.hid hr8
            have Hb8 := Lib.hid hb8
            clear ho8 hr8 hb8 hn8
            go_wp2_with fail
            refine (ref_Copy a8 n8 c8 _ w8 Hr8.out (by omega)).mono ?_
            rintro e w9 ⟨v9, rfl, ho9, hb9⟩
            have hb79 := Hb8.out.trans (hb9.mono Hb8.out.size)
            have hend : ActSw B g gw w R vs' us' vb v9 (.int .i64 (Dk.read D tt).2) w9 := by
              refine ⟨by rw [HR3.out], by rw [HR2.out]; exact ho9.bt.mono fun k hk hlt => ⟨rfl, trivial⟩, HBt7.out.below hb79, Hbw7.out.trans (hb79.mono HA7.out.d.size), w5.heap.size, F, ?_⟩
              have h := HA7.out.keep hb79
              rw [HR1.out] at h ⊢
              exact h
            have Hend := Lib.hid hend
            clear hend ho9 hb9 hb79
            go_wp2_with fail
            go_meet
            exact Hend.out
        by_cases k4 : kk = 4
        · as_aux_lemma =>
            subst k4
            have HR1 := Lib.hid (show R.1 = Dk.fuse D nn by rw [HR.out]; rfl)
            have HR2 := Lib.hid (show R.2.1 = [] by rw [HR.out]; rfl)
            have HR3 := Lib.hid (show R.2.2 = 0 by rw [HR.out]; rfl)
            clear k0 k1 k2 k3
            go_wp2_with fail
            refine (disk_Fuse g D nn w7 HA7.out.d.at_).mono ?_
            rintro e w8 ⟨rfl, ha8, ho8⟩
            obtain ⟨hA8, hb8⟩ := HA7.out.turn ⟨ho8, fun k hk => .inl hk⟩ ha8 (Dk.ok_fuse HA7.out.d.ok nn q2.2)
            have hend : ActSw B g gw w R vs' us' vb (.slice none 0 0) (.int .i64 0) w8 := by
              have h := HBt7.out
              refine ⟨by rw [HR3.out], by rw [HR2.out]; exact Bt.nil _ _, ?_, Hbw7.out.trans hb8, w5.heap.size, F, by rw [HR1.out] at hA8 ⊢; exact hA8⟩
              rw [HR2.out] at h ⊢
              exact h.none
            have Hend := Lib.hid hend
            clear hend hA8 hb8 ha8 ho8
            go_wp2_with fail
            go_meet
            exact Hend.out
        by_cases k5 : kk = 5
        · as_aux_lemma =>
            subst k5
            have HR1 := Lib.hid (show R.1 = Dk.crash D ks by rw [HR.out]; rfl)
            have HR2 := Lib.hid (show R.2.1 = [] by rw [HR.out]; rfl)
            have HR3 := Lib.hid (show R.2.2 = 0 by rw [HR.out]; rfl)
            clear k0 k1 k2 k3 k4
            go_wp2_with fail
            refine (disk_Crash g D aK _ cK ks w7 HA7.out.d.at_ HA7.out.d.ok rfl HsK7.out).mono ?_
            rintro e w8 ⟨rfl, F8, ha8, ht8⟩
            obtain ⟨hA8, hb8⟩ := HA7.out.turn ht8 ha8 (Dk.ok_crash HA7.out.d.ok ks)
            have hend : ActSw B g gw w R vs' us' vb (.slice none 0 0) (.int .i64 0) w8 := by
              have h := HBt7.out
              refine ⟨by rw [HR3.out], by rw [HR2.out]; exact Bt.nil _ _, ?_, Hbw7.out.trans hb8, w5.heap.size, F8, by rw [HR1.out] at hA8 ⊢; exact hA8⟩
              rw [HR2.out] at h ⊢
              exact h.none
            have Hend := Lib.hid hend
            clear hend hA8 hb8 ha8 ht8
            go_wp2_with fail
            go_meet
            exact Hend.out
        have k0' : (kk == 0) = false := by simpa using k0
        have k1' : (kk == 1) = false := by simpa using k1
        have k2' : (kk == 2) = false := by simpa using k2
        have k3' : (kk == 3) = false := by simpa using k3
        have k4' : (kk == 4) = false := by simpa using k4
        have k5' : (kk == 5) = false := by simpa using k5
        have hRR : R = (D, [], 0) := by
          rw [HR.out]; unfold Dk.dstep
          rw [if_neg k4, if_neg k5, if_neg k0, if_neg k1, if_neg k2, if_neg k3]
        have hend : ActSw B g gw w R vs' us' vb (.slice none 0 0) (.int .i64 0) w7 := by
          have h := HBt7.out
          have hA := HA7.out
          rw [hRR] at h hA ⊢
          exact ⟨rfl, Bt.nil _ _, h, Hbw7.out, w5.heap.size, F, hA⟩
        have Hend := Lib.hid hend
        clear hend hRR k0 k1 k2 k3 k4 k5
        go_wp2_with fail
        go_meet
        exact Hend.out
      obtain ⟨h13, hB12, hBb, hbwx, L2, F2, hA⟩ := hcut
      subst h13
      obtain ⟨w8, hw8⟩ : ∃ x, x = wc := ⟨_, rfl⟩
      subst hw8
      obtain ⟨a12, c12, e12, hc12, hm12, hs12⟩ := hB12
      subst e12
      obtain ⟨ab, cb, rfl, hcb, hmb, hsb⟩ := hBb
      have x13 := hA.acts
      have x15 := hA.down
      have hn123 : (R.2.2 != R.2.2) = false := by simp
      have HA := Lib.hid hA
      have Hbwx := Lib.hid hbwx
      have Hs12 := Lib.hid hs12
      have Hsb := Lib.hid hsb
      clear hA hbwx hs12 hsb z0 z1 z2 z3 z4
      go_upto_region 34 with fail
      have hll : (R.2.1 == R.2.1) = true := by simp
      go_quiet ((first
        | (go_at_call 14; exact quiet_eq (ref_Same ab a12 _ _ cb c12 R.2.1 R.2.1 _ (RB.drewN (show RB w8 ab R.2.1.length R.2.1 from ⟨rfl, Hsb.out⟩) _) (RB.drewN (show RB w8 a12 R.2.1.length R.2.1 from ⟨rfl, Hs12.out⟩) _)))
        | (go_at_call 26; exact quiet_eq (disk_Acts g R.1 _ (HA.out.d.at_.keep (below_drewN (Below.refl _ w8) _))))
        | (go_at_call 30; exact quiet_eq (disk_Down g R.1 _ (HA.out.d.at_.keep (below_drewN (Below.refl _ w8) _))))))
      obtain ⟨w9, hw9⟩ : ∃ x, x = w8.drewN nq := ⟨_, rfl⟩
      have hA9 := HA.out.keep (below_drewN (Below.refl _ w8) nq)
      have hbw9 := below_drewN Hbwx.out nq
      rw [← hw9] at hA9 hbw9 ⊢
      have HA9 := Lib.hid hA9
      have Hbw9 := Lib.hid hbw9
      clear hw9 hA9 hbw9 x13 x15 hll hn123
      go_wp2_with fail
      go_loopw [16] (fun i wx => ∃ t : Nat, t ≤ 4 ∧ i = .int .i64 t ∧ ActsM B L2 F2 wx g gw R.1 R.1 vs' us' ∧ Below B w wx) (fun i _ => 4 - (intOf i).toNat)
      case atStart => exact ⟨0, Nat.zero_le _, rfl, HA9.out, Hbw9.out⟩
      case round =>
        clear HA9 Hbw9
        obtain ⟨t, ht4, rfl, hA, hbwt⟩ := hrel
        have x15 := hA.down
        by_cases hgo : t < 4 ∧ R.1.down = false
        · as_aux_lemma =>
            obtain ⟨ht, hdn⟩ := hgo
            rw [hdn] at x15
            have hti : (t : Int) < 4 := by omega
            have hti' : decide ((t : Int) < 4) = true := by simpa using hti
            have ht0 : (0 : Int) ≤ (t : Int) := by omega
            have herr : Dk.err R.1 (t : Int) = 0 := by unfold Dk.err; rw [if_neg (by omega), hdn]; rfl
            have hrd : Dk.read R.1 (t : Int) = ((R.1.t t).b, 0) := by
              unfold Dk.read
              rw [if_neg (by rw [herr]; decide), Int.toNat_natCast]
            have hsafe : Dk.safe R.1 (t : Int) = if (R.1.t t).fresh = true then 0 else ((R.1.t t).safe : Int) := by
              unfold Dk.safe
              rw [if_neg (by rw [herr]; decide), Int.toNat_natCast]
            obtain ⟨x, hx⟩ : ∃ x, x = R.1.t t := ⟨_, rfl⟩
            have hbl : x.b.length ≤ 4194304 := by have h1 := hA.d.ok.len t; have h2 := hA.d.ok.room1; rw [← hx] at h1; omega
            have hol : x.old.length ≤ 4194304 := by have h1 := hA.d.ok.old t; have h2 := hA.d.ok.room1; rw [← hx] at h1; omega
            have hsl : x.safe ≤ x.b.length := by rw [hx]; exact hA.d.ok.safe t
            have HA := Lib.hid hA
            have Hbwt := Lib.hid hbwt
            have Hsafe := Lib.hid hsafe
            have Hx := Lib.hid hx
            have Hrd := Lib.hid hrd
            clear hA hbwt hsafe hx hrd herr hdn
            go_wp2_with fail
            refine (disk_Read g R.1 t _ wr rfl HA.out.d.at_ HA.out.d.ok).mono ?_
            rw [Hrd.out, ← Hx.out]
            rintro e w10 ⟨v10, rfl, ho10, hb10⟩
            have hA10 := HA.out.keep hb10
            have hbx := ho10.bx
            obtain ⟨n10, hn10⟩ : ∃ n, n = x.b.length := ⟨_, rfl⟩
            obtain ⟨a10, c10, rfl, hc10, hm10, hr10, _⟩ := ho10.shape n10 hn10
            rw [← hn10] at hbx
            obtain ⟨a0, c0, e0, hc0, hm0, hs0⟩ := hA10.rf.sa t ht
            obtain ⟨a2, c2, e2, hc2, hm2, hs2⟩ := hA10.rf.mo t ht
            have y0 := hA10.s ht
            have y1 := hA10.c ht
            have y2 := hA10.m ht
            rw [e0, ← Hx.out] at y0
            rw [← Hx.out] at y1
            rw [e2, ← Hx.out] at y2
            rw [← Hx.out] at hs0 hs2 hc0 hc2
            have hlsl := Dk.rsafe_len x 4194304 hbl hol
            have hlml := Dk.rmore_len x 4194304 hbl
            have hrn := Dk.rnow x
            have hsf : x.fresh = false → (Dk.rsafe x).length = x.safe := fun h => by unfold Dk.rsafe; rw [h]; simp; omega
            obtain ⟨ls, hls⟩ : ∃ l, l = Dk.rsafe x := ⟨_, rfl⟩
            obtain ⟨lm, hlm⟩ : ∃ l, l = Dk.rmore x := ⟨_, rfl⟩
            rw [← hls] at y0 hs0 hc0 hlsl hrn hsf
            rw [← hlm] at y2 hs2 hc2 hlml hrn
            have hb9 : Below B w w10 := Hbwt.out.trans (hb10.mono HA.out.d.size)
            have HA10 := Lib.hid hA10
            have Hb9 := Lib.hid hb9
            have Hbx := Lib.hid hbx
            have Hr10 := Lib.hid hr10
            have Hn10 := Lib.hid hn10
            have Hs0' := Lib.hid hs0
            have Hs2' := Lib.hid hs2
            have Hrn := Lib.hid hrn
            have Hsf := Lib.hid hsf
            have Hb10 := Lib.hid hb10
            clear hA10 hb9 hbx ho10 hr10 hn10 hs0 hs2 hrn hsf hb10 e0 e2 hls hlm x15
            go_upto_if 169 with fail
            go_cut [19] (fun v wx => v = .int .i64 (Dk.safe R.1 (t : Int)) ∧ wx = w10)
            case first =>
              cases hfc : x.fresh
              · rw [hfc] at y1
                have h := Hsafe.out
                rw [← Hx.out, hfc, if_neg (by decide), ← Hsf.out hfc] at h
                have Hh := Lib.hid h
                clear hfc h
                go_wp2_with fail
                go_meet
                exact ⟨by rw [Hh.out], rfl⟩
              · rw [hfc] at y1
                have h := Hsafe.out
                rw [← Hx.out, hfc, if_pos rfl] at h
                have Hh := Lib.hid h
                clear hfc h
                go_wp2_with fail
                go_meet
                exact ⟨by rw [Hh.out], rfl⟩
            obtain ⟨h19, hwc⟩ := hcut
            subst h19
            obtain ⟨wy, hwy⟩ : ∃ x, x = wc := ⟨_, rfl⟩
            subst hwy
            rw [hwc]
            clear hwc
            obtain ⟨sf, hsf⟩ : ∃ z, z = Dk.safe R.1 (t : Int) := ⟨_, rfl⟩
            rw [← hsf]
            have Hsf2 := Lib.hid hsf
            have hnn : (sf != sf) = false := by simp
            clear hsf
            go_wp2_with fail
            refine (ref16_Now a0 ls.length c0 ls x.fresh a2 lm.length c2 lm _ w10 rfl ⟨rfl, Hs0'.out.any (by decide)⟩ ⟨rfl, Hs2'.out.any (by decide)⟩ (by omega) (by omega)).mono ?_
            rw [Hrn.out]
            rintro e w11 ⟨v11, rfl, ho11, hb11⟩
            obtain ⟨a11, c11, rfl, hc11, hm11, hr11, _⟩ := ho11.shape n10 Hn10.out
            have HA11 := Lib.hid (HA10.out.keep hb11)
            have Hb11 := Lib.hid (Hb9.out.trans (hb11.mono HA10.out.d.size))
            have Hr11 := Lib.hid hr11
            have Hr101 := Lib.hid (Hr10.out.below (by decide) hb11)
            have Hb1011 := Lib.hid hb11
            clear ho11 hr11 hb11
            go_wp2_with fail
            refine (ref_Same a10 a11 _ _ c10 c11 x.b x.b w11 Hr101.out Hr11.out).mono ?_
            rintro e w12 ⟨rfl, rfl⟩
            have hbb : (x.b == x.b) = true := by simp
            go_wp2_with fail
            refine (disk_Safe g R.1 t w11 HA11.out.d.at_).mono ?_
            rw [← Hsf2.out]
            rintro e w12 ⟨rfl, rfl⟩
            go_wp2_with fail
            rcases Hbx.out with ⟨hnil, _⟩ | ⟨g8, c8', hv8, hg8, hbx8⟩
            · have hz : n10 = 0 := by rw [Hn10.out, hnil]; rfl
              have hz0 : ¬ ((0 : Int) < (n10 : Int)) := by omega
              clear hnil hz
              go_loopw [191] (fun i wx => i = .int .i64 0 ∧ w11 = wx) (fun i _ => 0)
              case atStart => exact ⟨rfl, rfl⟩
              case round =>
                obtain ⟨rfl, rfl⟩ := hrel
                go_wp2_with fail
                go_roundw
                case rel => exact ⟨t + 1, by omega, by go_num, HA11.out, Hb11.out⟩
                case measure => simp [intOf]; omega
            · simp only [Value.slice.injEq] at hv8
              obtain ⟨rfl, _, _⟩ := hv8
              have hg8l : g8 < w10.heap.size := by obtain ⟨cs, te, hh, _⟩ := hbx8; exact (Array.getElem?_eq_some_iff.1 hh).1
              have hnF : ¬ F2 g8 := fun hf => by have := HA.out.d.flt g8 hf; omega
              have hng : g8 ≠ gw := by have := HA.out.glt; omega
              have hL8 : L2 ≤ g8 := Nat.le_trans HA.out.ll hg8
              have hBg : B ≤ g8 := Nat.le_trans HA.out.d.size hg8
              have hbx11 : Bx w11 g8 n10 := by
                obtain ⟨cs, te, hh, hcs⟩ := hbx8
                exact ⟨cs, te, (Hb1011.out.block g8 hg8l).trans hh, hcs⟩
              have Hbx11 := Lib.hid hbx11
              have hn10b : n10 ≤ 4194304 := by rw [Hn10.out]; exact hbl
              clear hbx8 hbx11
              go_loopw [191] (fun i wx => ∃ k : Nat, k ≤ n10 ∧ i = .int .i64 k ∧ Bx wx g8 n10 ∧ Only (· = g8) w11 wx) (fun i _ => n10 - (intOf i).toNat)
              case atStart => exact ⟨0, Nat.zero_le _, rfl, Hbx11.out, Only.refl _ _⟩
              case round =>
                obtain ⟨k, hk, rfl, hbx, ho⟩ := hrel
                by_cases hkl : k < n10
                · have hki : (k : Int) < (n10 : Int) := by omega
                  have hk0 : (0 : Int) ≤ (k : Int) := by omega
                  obtain ⟨xx, hx⟩ := hbx.cell hkl
                  have hxf := hbx.free k
                  have Hbxn := Lib.hid (fun y => hbx.set k y)
                  have Hon := Lib.hid (fun y => ho.setCell (p := ⟨g8, k, none⟩) (.inl rfl) y)
                  clear hbx ho
                  go_wp2_with fail
                  go_roundw
                  case rel => exact ⟨k + 1, by omega, by go_num, Hbxn.out _, Hon.out _⟩
                  case measure => simp [intOf]; omega
                · have hki : ¬ ((k : Int) < (n10 : Int)) := by omega
                  have hAf := HA11.out.only ho fun q hq => by subst hq; exact ⟨hL8, hnF, hng⟩
                  have hbf := Hb11.out.trans (ho.below HA11.out.d.size fun q hq => by rw [hq]; exact hBg)
                  have HAf := Lib.hid hAf
                  have Hbf := Lib.hid hbf
                  clear hAf hbf ho hbx
                  go_wp2_with fail
                  go_roundw
                  case rel => exact ⟨t + 1, by omega, by go_num, HAf.out, Hbf.out⟩
                  case measure => simp [intOf]; omega
        · as_aux_lemma =>
            have hrel2 : RowKit.Hid (∃ (j' L : Nat) (F : Nat → Prop) (D : Dk.Dsk) (vs us : Nat → Value), Value.int .i64 ((j : Int) + 1) = .int .i64 j' ∧ j' ≤ ts.length ∧ j' ≤ 80 ∧ ActsM B L F wr g gw D D vs us ∧ Dk.Fr D ∧ (0 ≤ D.acts ∧ D.acts ≤ j') ∧ Below B w wr) :=
              Lib.hid ⟨j + 1, L2, F2, R.1, vs', us', by go_num, by omega, by omega, hA, Hfr2.out, ⟨Hac2.out.1, by have := Hac2.out.2; have := Hac.out.2; omega⟩, hbwt⟩
            by_cases htt : t < 4
            · have hdn : R.1.down = true := by
                cases h : R.1.down
                · exact absurd ⟨htt, h⟩ hgo
                · rfl
              rw [hdn] at x15
              have hti : (t : Int) < 4 := by omega
              have hti' : decide ((t : Int) < 4) = true := by simpa using hti
              clear hdn hA hbwt hgo htt
              go_wp2_with fail
              go_roundw
              case rel => exact hrel2.out
              case measure => simp [intOf]; omega
            · have hti : ¬ ((t : Int) < 4) := by omega
              have hti' : decide ((t : Int) < 4) = false := by simpa using hti
              clear hA hbwt hgo htt x15
              go_wp2_with fail
              go_roundw
              case rel => exact hrel2.out
              case measure => simp [intOf]; omega
    · as_aux_lemma =>
        have hbw := Lib.hid hbw
        clear hA hfr hac
        by_cases hl0 : j < ts.length
        · have hj8 : ¬ ((j : Int) < 80) := by omega
          have hj8' : decide ((j : Int) < 80) = false := by simpa using hj8
          have hji : (j : Int) < (ts.length : Int) := by omega
          have hji' : decide ((j : Int) < (ts.length : Int)) = true := by simpa using hji
          clear hlt hl0
          go_wp2_with fail
          refine (disk_Fuse_nil 1 _).mono ?_
          rintro e w20 ⟨rfl, rfl⟩
          go_wp2_with fail
          refine (disk_Crash_nil none 0 0 _).mono ?_
          rintro e w20 ⟨rfl, rfl⟩
          go_wp2_with fail
          refine (disk_Read_nil 0 _).mono ?_
          rintro e w20 ⟨rfl, rfl⟩
          go_wp2_with fail
          refine (disk_Append_nil 0 none 0 0 _).mono ?_
          rintro e w20 ⟨rfl, rfl⟩
          go_wp2_with fail
          refine (disk_Clear_nil 0 _).mono ?_
          rintro e w20 ⟨rfl, rfl⟩
          go_wp2_with fail
          refine (disk_Flush_nil 0 _).mono ?_
          rintro e w20 ⟨rfl, rfl⟩
          go_wp2_with fail
          refine (disk_Safe_nil 0 _).mono ?_
          rintro e w20 ⟨rfl, rfl⟩
          go_wp2_with fail
          refine (disk_Acts_nil _).mono ?_
          rintro e w20 ⟨rfl, rfl⟩
          go_wp2_with fail
          refine (disk_Down_nil _).mono ?_
          rintro e w20 ⟨rfl, rfl⟩
          go_wp2_with fail
          go_ret
          exact ⟨rfl, hbw.out⟩
        · have hji : ¬ ((j : Int) < (ts.length : Int)) := by omega
          have hji' : decide ((j : Int) < (ts.length : Int)) = false := by simpa using hji
          clear hlt hl0
          go_wp2_with fail
          refine (disk_Fuse_nil 1 _).mono ?_
          rintro e w20 ⟨rfl, rfl⟩
          go_wp2_with fail
          refine (disk_Crash_nil none 0 0 _).mono ?_
          rintro e w20 ⟨rfl, rfl⟩
          go_wp2_with fail
          refine (disk_Read_nil 0 _).mono ?_
          rintro e w20 ⟨rfl, rfl⟩
          go_wp2_with fail
          refine (disk_Append_nil 0 none 0 0 _).mono ?_
          rintro e w20 ⟨rfl, rfl⟩
          go_wp2_with fail
          refine (disk_Clear_nil 0 _).mono ?_
          rintro e w20 ⟨rfl, rfl⟩
          go_wp2_with fail
          refine (disk_Flush_nil 0 _).mono ?_
          rintro e w20 ⟨rfl, rfl⟩
          go_wp2_with fail
          refine (disk_Safe_nil 0 _).mono ?_
          rintro e w20 ⟨rfl, rfl⟩
          go_wp2_with fail
          refine (disk_Acts_nil _).mono ?_
          rintro e w20 ⟨rfl, rfl⟩
          go_wp2_with fail
          refine (disk_Down_nil _).mono ?_
          rintro e w20 ⟨rfl, rfl⟩
          go_wp2_with fail
          go_ret
          exact ⟨rfl, hbw.out⟩
end Go.Proofs.Ytennjoegjghlaaa

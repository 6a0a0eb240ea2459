
/-
  What the document's own decoder of histories computes: the walk.
-/
import Derived.Test.YtennjoegjghlaaaBookRefD
import Derived.Test.YtennjoegjghlaaaApp2
import Derived.Deep.RegionLaw
namespace Go.Proofs.Ytennjoegjghlaaa
open Go.RowKit
set_option linter.unusedVariables false

theorem asB_drop (t : Bts.Bits) (i : Nat) : (Bts.asB t).drop i = Bts.asB (t.drop i) := by simp [Bts.asB]
/-- what is left of bits, from i on -/
theorem cutS {ok : Nat → Prop} {w : World} {a : Option Addr} {n c : Nat} {t : Bts.Bits} (hn : n = t.length) (h : Sl EU8 ok w a (Bts.asB t)) (i : Nat) (hi : i ≤ n) (hc : n ≤ c) :
    ∃ a', (∀ W : World, (Instr.slice 25 (.slice a n c) (some (.int .i64 (i : Int))) none none).run Try.prog W = .ok (.slice a' (n - i) (c - i)) W) ∧ Sl EU8 ok w a' (Bts.asB (t.drop i)) ∧ n - i = (t.drop i).length := by
  have hl : n = (Bts.asB t).length := by rw [Bts.asB_len]; exact hn
  refine ⟨if c = i then a else a.map (·.add (i * 1)), ?_, ?_, by rw [List.length_drop, hn]⟩
  · obtain ⟨i0, z, hi0, hz, hsz, hby, hzc⟩ := (ti_bytes).info
    intro W
    have e3 : (n : Int) ≤ (c : Int) := by omega
    have e4 : (i : Int) ≤ (n : Int) := by omega
    simp [Instr.slice, run_underlying (ti_bytes).under, Instr.sliceBounds, run_sliceBound, sizeOf, typeInfo, hi0, hsz, hi]
  · have := h.cut (c := c) (i := i) (j := n) hi (by omega) (by omega) (decide (c = i)) (by simp; omega)
    simp only [decide_eq_true_eq] at this
    rw [List.take_of_length_le (by rw [List.length_drop, ← hl]; exact Nat.le_refl _), asB_drop] at this
    exact this
theorem SB.at_ok {ok : Nat → Prop} {w : World} {a : Option Addr} {l : List (BitVec 8)} (h : Sl EU8 ok w a l) (k : Nat) (hk : k < l.length) :
    ∃ b o, a = some ⟨b, o, none⟩ ∧ w.cell? ⟨b, o + k, none⟩ = some (.int .u8 (bv l[k])) ∧ ok b := by
  obtain ⟨b, o, rfl, hb, cs, hr, hc⟩ := h k l[k] (List.getElem?_eq_getElem hk)
  refine ⟨b, o, rfl, ?_, hb⟩
  have hr' : cs = [.int .u8 (bv l[k])] := hr
  subst hr'
  have := hc 0 _ rfl
  simpa [EU8] using this
theorem Sl.only {α : Type} {E : Enc α} {ok S : Nat → Prop} {w w' : World} {a : Option Addr} {l : List α} (hs : 0 < E.sz) (h : Sl E ok w a l) (ho : Only S w w') (hS : ∀ k, ok k → ¬ S k) : Sl E ok w' a l :=
  h.mono hs fun k hk hlt => ⟨ho.block k hlt (hS k hk), hk⟩

set_option maxRecDepth 100000 in
set_option maxHeartbeats 6400000 in
theorem ref06_Decode (B : Nat) (a : Option Addr) (nb c : Nat) (b : List (BitVec 8)) (w : World) (hB : w.heap.size = B) (hr : RB w a nb b) (hl : nb ≤ 100000) :
    Calls Try.prog 34 #[.slice a nb c] w (DecPost B (Bk.dec (Bts.bitsOf b)) w) := by
  obtain ⟨D, hD⟩ : ∃ D, D = Bk.dec (Bts.bitsOf b) := ⟨_, rfl⟩
  rw [← hD]
  have hbl : (Bts.bitsOf b).length = 8 * nb := by rw [Bts.bitsOf_len, hr.1]
  have HB := Lib.hid hB
  go_enter Try.func34, Try.ntmps34
  go_wp2_with fail
  refine (ref_Bits a nb c b B _ hB hr (by omega)).mono ?_
  rintro e w1 ⟨v1, rfl, ho1, hb1⟩
  obtain ⟨l, hll⟩ : ∃ l, l = Bts.bitsOf b := ⟨_, rfl⟩
  rw [← hll] at ho1 hD hbl
  have HD := Lib.hid hD
  have hl8 : l.length ≤ 800000 := by omega
  clear hB hr hD hll hbl
  obtain ⟨a1, c1, rfl, hc1, hm1, hr1, _⟩ := ho1.shape l.length (by rw [Bts.asB_len])
  have hB1 : B ≤ w1.heap.size := by have := hb1.size; rw [HB.out] at this; exact this
  obtain ⟨B1, hB1e⟩ : ∃ B1, B1 = w1.heap.size := ⟨_, rfl⟩
  rw [← hB1e] at hB1
  have hs1 : Sl EU8 (fun k => k < B1) w1 a1 (Bts.asB l) := hr1.2.mono (by decide) fun k _ hk => ⟨rfl, by omega⟩
  have HB1e := Lib.hid hB1e
  clear hB1e
  go_wp2_with fail
  refine (ref_ReadNum a1 l.length c1 l _ hr1 hc1 (by omega)).mono ?_
  rintro e w2 ⟨rfl, rfl⟩
  obtain ⟨n, m, f, hnf⟩ : ∃ n m f, Bts.numF l = (n, m, f) := ⟨_, _, _, rfl⟩
  obtain ⟨f1, f2⟩ := Bk.dec_ref l n m f hnf
  rw [← HD.out] at f1 f2
  rw [hnf]
  dsimp only
  clear hnf
  by_cases hf : f = 0
  · subst hf
    obtain ⟨hml, f3, f4⟩ := f2 rfl
    clear f1 f2
    by_cases h4 : 400 < n.toNat
    · have hd := f3 h4
      have Hd := Lib.hid hd
      have h4' : 400 < bv n := by unfold bv; omega
      clear f3 f4 hd h4
      go_wp2_with fail
      refine bodyPost_ret (v := .tuple #[.slice none 0 0, .int .i64 4]) (by simp [results, Try.results34, go_sem]) rfl ?_
      exact ⟨_, by rw [Hd.out], by rw [Hd.out]; exact Own.nil _ _ _ _, hb1⟩
    · have h4' : ¬ (400 < bv n) := by unfold bv; omega
      obtain ⟨f5, f6⟩ := f4 (by omega)
      obtain ⟨N, hN⟩ : ∃ N, N = n.toNat := ⟨_, rfl⟩
      have hN4 : N ≤ 400 := by omega
      have hbn : bv n = (N : Int) := by unfold bv; rw [hN]
      rw [← hN] at f5 f6
      have Hbn := Lib.hid hbn
      have F5 := Lib.hid f5
      have F6 := Lib.hid f6
      clear f3 f4 f5 f6 hN h4 hbn
      obtain ⟨a2, hcut2, hs2, hn2⟩ := cutS rfl hs1 m (by omega) hc1
      have ho3 := own_empty EEv 69 w1 (by decide)
      obtain ⟨w3, hw3⟩ : ∃ z, z = w1.alloc (.cells #[] 69) := ⟨_, rfl⟩
      have hb3 : Below w1.heap.size w1 w3 := by subst hw3; exact (Below.refl _ _).alloc (Nat.le_refl _) _
      have hex := hw3.symm
      rw [← hw3] at ho3
      rw [← HB1e.out] at ho3 hb3
      clear hw3
      have hbw3 : Below B w w3 := hb1.trans (hb3.mono hB1)
      have hs3 := hs2.below (by decide) (by rw [← HB1e.out]; exact hb3)
      obtain ⟨t0, ht0⟩ : ∃ t, t = l.drop m := ⟨_, rfl⟩
      rw [← ht0] at hs3 hn2
      have Hn2 := Lib.hid hn2
      clear hn2
      have Ht0 := Lib.hid ht0
      clear ht0 hs2 hs1 hr1 ho1
      go_upto_region 9 with fail
      rw [← HB1e.out]
      clear hex
      go_wp2_with fail
      go_loopw [4, 8, 9] (fun t4 t8 i wr => ∃ (k : Nat) (es : List Bk.Ev) (t : Bts.Bits) (a4 : Option Addr) (c4 : Nat), k ≤ N ∧ t4 = .slice a4 t.length c4 ∧ t.length ≤ c4 ∧ t.length ≤ 800000 ∧ i = .int .u64 (bv (BitVec.ofNat 64 k)) ∧ Sl EU8 (fun k => k < B1) wr a4 (Bts.asB t) ∧ Own EEv 69 B1 wr t8 es ∧ es.length = k ∧ Below B w wr ∧ B1 ≤ wr.heap.size ∧ Bts.manyP Bk.evP k t0 = .inl (es, t)) (fun _ _ i _ => N - (intOf i).toNat)
      case atStart => exact ⟨0, [], t0, a2, c1 - m, Nat.zero_le _, by rw [Hn2.out], by rw [← Hn2.out]; omega, by rw [← Hn2.out]; omega, rfl, hs3, ho3, rfl, hbw3, by have := hb3.size; rw [← HB1e.out] at this; exact this, rfl⟩
      case round =>
        clear hs3 ho3 hbw3 hb3
        obtain ⟨k, es, t, a4, c4, hk, rfl, htc, ht8, rfl, hs, ho, hol, hb, hB1o, hmany⟩ := hrel
        obtain ⟨wo, hwo⟩ : ∃ z, z = wr := ⟨_, rfl⟩
        subst hwo
        have hbk : bv (BitVec.ofNat 64 k) = (k : Int) := by unfold bv; rw [BitVec.toNat_ofNat]; omega
        have Hbk := Lib.hid hbk
        have Hmany := Lib.hid hmany
        have Hol := Lib.hid hol
        have hBo : B ≤ wo.heap.size := by have := hb.size; rw [HB.out] at this; exact this
        obtain ⟨a8, c8, rfl, hc8, hm8, hr8, _⟩ := ho.shape k hol.symm
        clear hbk hmany hol hr8
        by_cases hlt : k < N
        · have hlt' : bv (BitVec.ofNat 64 k) < bv n := by rw [Hbk.out, Hbn.out]; omega
          have hfail : ∀ e, Bk.evP t = .inr e → D = ([], e) := fun e he => F5.out (k + 1) e (by omega) (by rw [← Ht0.out]; exact Bts.manyP_bad Hmany.out he)
          have Hfail := Lib.hid hfail
          clear hfail
          by_cases h10 : t.length < 10
          · have hd := Hfail.out 10 (Bk.ev_short t h10)
            have Hd := Lib.hid hd
            have h10' : (t.length : Int) < 10 := by omega
            clear hd h10
            go_wp2_with fail
            refine bodyPost_ret (v := .tuple #[.slice none 0 0, .int .i64 10]) (by simp [results, Try.results34, go_sem]) rfl ?_
            exact ⟨_, by rw [Hd.out], by rw [Hd.out]; exact Own.nil _ _ _ _, hb⟩
          · have h10' : ¬ ((t.length : Int) < 10) := by omega
            obtain ⟨kd, hkd⟩ : ∃ z, z = Bts.val (t.take 2) := ⟨_, rfl⟩
            obtain ⟨cl, hcl⟩ : ∃ z, z = Bts.val ((t.drop 2).take 4) := ⟨_, rfl⟩
            obtain ⟨no, hno⟩ : ∃ z, z = Bts.val ((t.drop 6).take 4) := ⟨_, rfl⟩
            obtain ⟨k4, c16, n16, e12, e11⟩ := Bk.ev_ref t (by omega) kd cl no hkd hcl hno
            obtain ⟨a5, hcut5, hs5, hn5⟩ := cutS rfl hs 2 (by omega) htc
            obtain ⟨a6, hcut6, hs6, hn6⟩ := cutS rfl hs 6 (by omega) htc
            obtain ⟨a7, hcut7, hs7, hn7⟩ := cutS rfl hs 10 (by omega) htc
            have hcut5' : ∀ W : World, (Instr.slice 25 (.slice a4 t.length c4) (some (.int .i64 2)) none none).run Try.prog W = .ok (.slice a5 (t.length - 2) (c4 - 2)) W := hcut5
            have hcut6' : ∀ W : World, (Instr.slice 25 (.slice a4 t.length c4) (some (.int .i64 6)) none none).run Try.prog W = .ok (.slice a6 (t.length - 6) (c4 - 6)) W := hcut6
            have hcut7' : ∀ W : World, (Instr.slice 25 (.slice a4 t.length c4) (some (.int .i64 10)) none none).run Try.prog W = .ok (.slice a7 (t.length - 10) (c4 - 10)) W := hcut7
            have Hkd := Lib.hid hkd
            have Hcl := Lib.hid hcl
            have Hno := Lib.hid hno
            have E12 := Lib.hid e12
            have E11 := Lib.hid e11
            have Hn5 := Lib.hid hn5
            have Hn6 := Lib.hid hn6
            have Hn7 := Lib.hid hn7
            clear hkd hcl hno e12 e11 hn5 hn6 hn7 hcut5 hcut6 hcut7 h10
            go_wp2_with fail
            refine (ref_Get a4 t.length c4 t 2 _ ⟨by rw [Bts.asB_len], hs.any (by decide)⟩ htc (by omega) (by decide)).mono ?_
            rw [show Bts.clamp 2 = 2 by rfl, if_neg (by omega), ← Hkd.out]
            rintro e w4 ⟨rfl, rfl⟩
            go_wp2_with fail
            refine (ref_Get a5 (t.length - 2) (c4 - 2) (t.drop 2) 4 _ ⟨by rw [Bts.asB_len]; exact Hn5.out, hs5.any (by decide)⟩ (by omega) (by omega) (by decide)).mono ?_
            rw [show Bts.clamp 4 = 4 by rfl, if_neg (by rw [← Hn5.out]; omega), ← Hcl.out]
            rintro e w4 ⟨rfl, rfl⟩
            go_wp2_with fail
            refine (ref_Get a6 (t.length - 6) (c4 - 6) (t.drop 6) 4 _ ⟨by rw [Bts.asB_len]; exact Hn6.out, hs6.any (by decide)⟩ (by omega) (by omega) (by decide)).mono ?_
            rw [show Bts.clamp 4 = 4 by rfl, if_neg (by rw [← Hn6.out]; omega), ← Hno.out]
            rintro e w4 ⟨rfl, rfl⟩
            clear hcut5' hcut6' hs5 hs6
            by_cases h12 : 12 < no.toNat
            · have hd := Hfail.out 11 (E12.out h12)
              have Hd := Lib.hid hd
              have h12' : 12 < bv no := by unfold bv; omega
              clear hd h12
              go_wp2_with fail
              refine bodyPost_ret (v := .tuple #[.slice none 0 0, .int .i64 11]) (by simp [results, Try.results34, go_sem]) rfl ?_
              exact ⟨_, by rw [Hd.out], by rw [Hd.out]; exact Own.nil _ _ _ _, hb⟩
            · have h12' : ¬ (12 < bv no) := by unfold bv; omega
              obtain ⟨e1, e2⟩ := E11.out (by omega)
              have Ee1 := Lib.hid e1
              have Ee2 := Lib.hid e2
              obtain ⟨ki, hki⟩ : ∃ z, z = (kd.toNat : Int) := ⟨_, rfl⟩
              obtain ⟨ci, hci⟩ : ∃ z, z = (cl.toNat : Int) := ⟨_, rfl⟩
              have hkd : kd.toInt = ki := by rw [hki, BitVec.toInt_eq_toNat_cond, if_pos (by omega)]
              have hcl : cl.toInt = ci := by rw [hci, BitVec.toInt_eq_toNat_cond, if_pos (by omega)]
              have bk1 : 0 ≤ ki := by omega
              have bk2 : ki ≤ 3 := by omega
              have bc1 : 0 ≤ ci := by omega
              have bc2 : ci ≤ 15 := by omega
              obtain ⟨M, hM⟩ : ∃ M, M = no.toNat := ⟨_, rfl⟩
              have hM12 : M ≤ 12 := by omega
              have hbm : bv no = (M : Int) := by unfold bv; rw [hM]
              have Hbm := Lib.hid hbm
              have HM := Lib.hid hM
              have Hki := Lib.hid hki
              have Hci := Lib.hid hci
              obtain ⟨E, hE⟩ : ∃ E, E = wo.heap.size := ⟨_, rfl⟩
              have HE := Lib.hid hE
              obtain ⟨t1, ht1⟩ : ∃ z, z = t.drop 10 := ⟨_, rfl⟩
              rw [← ht1] at hs7
              have Ht1 := Lib.hid ht1
              clear e1 e2 hki hci hM hE hbm ht1 h12 E11 E12
              obtain ⟨w5, hw5⟩ : ∃ z, z = wo.alloc (.cells #[.int .i64 (ki + 1), .int .i64 (ci + 1), .slice none 0 0] 69) := ⟨_, rfl⟩
              have hb5 : Below wo.heap.size wo w5 := by subst hw5; exact (Below.refl _ _).alloc (Nat.le_refl _) _
              have hh5 : w5.heap[E]? = some (.cells #[.int .i64 (ki + 1), .int .i64 (ci + 1), .slice none 0 0] 69 (0, 0)) := by subst hw5; rw [HE.out]; exact heap_alloc_new wo _
              rw [← HE.out] at hb5
              have hB1E : B1 ≤ E := by rw [HE.out]; exact hB1o
              go_upto_region 21 with fail
              rw [← hw5]
              rw [← HE.out]
              clear hw5
              go_wp2_with fail
              go_loopw [4, 20] (fun t4 i wr => ∃ (q : Nat) (ops : List Bk.Op) (u : Bts.Bits) (a9 : Option Addr) (c9 : Nat) (v : Value), q ≤ M ∧ t4 = .slice a9 u.length c9 ∧ u.length ≤ c9 ∧ u.length ≤ 800000 ∧ i = .int .u64 (bv (BitVec.ofNat 64 q)) ∧ Sl EU8 (fun k => k < B1) wo a9 (Bts.asB u) ∧ Own EOp 79 (E + 1) wr v ops ∧ ops.length = q ∧
                  wr.heap[E]? = some (.cells #[.int .i64 (ki + 1), .int .i64 (ci + 1), v] 69 (0, 0)) ∧ Below E wo wr ∧ Bts.manyP Bk.opP q t1 = .inl (ops, u)) (fun _ i _ => M - (intOf i).toNat)
              case atStart => exact ⟨0, [], t1, a7, c4 - 10, _, Nat.zero_le _, by rw [Hn7.out, Ht1.out], by rw [Ht1.out, ← Hn7.out]; omega, by rw [Ht1.out, ← Hn7.out]; omega, rfl, hs7, Own.nil _ _ _ _, rfl, hh5, hb5, rfl⟩
              case round =>
                clear hh5 hb5 hs7
                obtain ⟨q, ops, u, a9, c9, v, hq, rfl, huc, hu8, rfl, hsu, hv, hvl, hhE, hbE, hmq⟩ := hrel
                obtain ⟨av, cv, rfl, hqc, hcvm, hrv, _⟩ := hv.shape q hvl.symm
                have hbq : bv (BitVec.ofNat 64 q) = (q : Int) := by unfold bv; rw [BitVec.toNat_ofNat]; omega
                have Hbq := Lib.hid hbq
                have Hmq := Lib.hid hmq
                have Hvl := Lib.hid hvl
                have z0 : wr.cell? ⟨E, 0, none⟩ = some (.int .i64 (ki + 1)) := by simp [World.cell?, hhE]
                have z1 : wr.cell? ⟨E, 1, none⟩ = some (.int .i64 (ci + 1)) := by simp [World.cell?, hhE]
                have z2 : wr.cell? ⟨E, 2, none⟩ = some (.slice av q cv) := by simp [World.cell?, hhE]
                have hsr := hsu.below (by decide) (by rw [← HE.out]; exact hbE)
                have hEw : E < wr.heap.size := cell_lt z0
                have hbw : Below B w wr := hb.trans (hbE.mono (by omega))
                clear hbq hmq hvl hrv
                by_cases hlq : q < M
                · have hlq' : bv (BitVec.ofNat 64 q) < bv no := by rw [Hbq.out, Hbm.out]; omega
                  have hfail2 : ∀ e, Bk.opP u = .inr e → D = ([], e) := fun e he => Hfail.out e (Ee2.out (q + 1) e (by have := HM.out; omega) (by rw [← Ht1.out]; exact Bts.manyP_bad Hmq.out he))
                  have Hfail2 := Lib.hid hfail2
                  clear hfail2
                  by_cases h5 : u.length < 5
                  · have hd := Hfail2.out 10 (Bk.op_short u h5)
                    have Hd := Lib.hid hd
                    have h5' : (u.length : Int) < 5 := by omega
                    clear hd h5
                    go_wp2_with fail
                    refine bodyPost_ret (v := .tuple #[.slice none 0 0, .int .i64 10]) (by simp [results, Try.results34, go_sem]) rfl ?_
                    exact ⟨_, by rw [Hd.out], by rw [Hd.out]; exact Own.nil _ _ _ _, hbw⟩
                  · have h5' : ¬ ((u.length : Int) < 5) := by omega
                    obtain ⟨key, hkey⟩ : ∃ z, z = Bts.val ((u.drop 1).take 4) := ⟨_, rfl⟩
                    obtain ⟨vv, m2, f2, hnf⟩ : ∃ n m f, Bts.numF (u.drop 5) = (n, m, f) := ⟨_, _, _, rfl⟩
                    obtain ⟨z, hz⟩ : ∃ z, (Bts.asB u)[0]? = some z := ⟨_, List.getElem?_eq_getElem (by rw [Bts.asB_len]; omega)⟩
                    obtain ⟨g1, g2, g3, g4⟩ := Bk.op_ref u z hz key vv m2 f2 (by omega) hkey hnf
                    obtain ⟨bu, ou, rfl, hcu, hbu⟩ := SB.at_ok hsr 0 (by rw [Bts.asB_len]; omega)
                    rw [List.getElem?_eq_getElem (by rw [Bts.asB_len]; omega)] at hz
                    injection hz with hz
                    rw [hz, Nat.add_zero] at hcu
                    obtain ⟨a10, hcut10, hs10, hn10⟩ := cutS rfl hsr 1 (by omega) huc
                    obtain ⟨a11, hcut11, hs11, hn11⟩ := cutS rfl hsr 5 (by omega) huc
                    have hcut10' : ∀ W : World, (Instr.slice 25 (.slice (some ⟨bu, ou, none⟩) u.length c9) (some (.int .i64 1)) none none).run Try.prog W = .ok (.slice a10 (u.length - 1) (c9 - 1)) W := hcut10
                    have hcut11' : ∀ W : World, (Instr.slice 25 (.slice (some ⟨bu, ou, none⟩) u.length c9) (some (.int .i64 5)) none none).run Try.prog W = .ok (.slice a11 (u.length - 5) (c9 - 5)) W := hcut11
                    have Hkey := Lib.hid hkey
                    have Hnf := Lib.hid hnf
                    have G1 := Lib.hid g1
                    have G2 := Lib.hid g2
                    have Hn10 := Lib.hid hn10
                    have Hn11 := Lib.hid hn11
                    clear hkey hnf g1 g2 hn10 hn11 hz hcut10 hcut11 h5
                    go_wp2_with fail
                    refine (ref_Get a10 (u.length - 1) (c9 - 1) (u.drop 1) 4 _ ⟨by rw [Bts.asB_len]; exact Hn10.out, hs10.any (by decide)⟩ (by omega) (by omega) (by decide)).mono ?_
                    rw [show Bts.clamp 4 = 4 by rfl, if_neg (by rw [← Hn10.out]; omega), ← Hkey.out]
                    rintro e w6 ⟨rfl, rfl⟩
                    go_wp2_with fail
                    refine (ref_ReadNum a11 (u.length - 5) (c9 - 5) (u.drop 5) _ ⟨by rw [Bts.asB_len]; exact Hn11.out, hs11.any (by decide)⟩ (by omega) (by omega)).mono ?_
                    rw [Hnf.out]
                    dsimp only
                    rintro e w6 ⟨rfl, rfl⟩
                    clear hcut10' hcut11' hs10 hs11
                    by_cases hf2 : f2 = 0
                    · subst hf2
                      obtain ⟨m5, g5, g6⟩ := G2.out rfl
                      by_cases hv40 : 1099511627776 ≤ vv.toNat
                      · have hd := Hfail2.out 11 (g5 hv40)
                        have Hd := Lib.hid hd
                        have hdv : decide (1099511627776 ≤ bv vv) = true := by unfold bv; simp; omega
                        clear hd hv40 g5 g6
                        go_wp2_with fail
                        refine bodyPost_ret (v := .tuple #[.slice none 0 0, .int .i64 11]) (by simp [results, Try.results34, go_sem]) rfl ?_
                        exact ⟨_, by rw [Hd.out], by rw [Hd.out]; exact Own.nil _ _ _ _, hbw⟩
                      · have hop := g6 (by omega)
                        have Hop := Lib.hid hop
                        have hdv : decide (1099511627776 ≤ bv vv) = false := by unfold bv; simp; omega
                        obtain ⟨o2, ho2⟩ : ∃ z, z = (key.toNat : Int) := ⟨_, rfl⟩
                        obtain ⟨o3, ho3⟩ : ∃ z, z = (vv.toNat : Int) := ⟨_, rfl⟩
                        have hk2 : key.toInt = o2 := by rw [ho2, BitVec.toInt_eq_toNat_cond, if_pos (by omega)]
                        have hk3 : vv.toInt = o3 := by rw [ho3, BitVec.toInt_eq_toNat_cond, if_pos (by omega)]
                        have Ho2 := Lib.hid ho2
                        have Ho3 := Lib.hid ho3
                        have Hvv := Lib.hid hv40
                        have hz1 : bv z ≤ 1 := by unfold bv; omega
                        have hz0 := bv_nonneg z
                        have hu0 : 0 < u.length := by omega
                        have hu1 : (0 : Int) < (u.length : Int) := by omega
                        have hb7 : Below wr.heap.size wr (wr.drew.alloc (.cells #[.int .i64 (bv z + 1), .int .i64 o2, .int .i64 o3] 79)) := (Below.refl _ _).drew.alloc (Nat.le_refl _) _
                        have hv7 := hv.below hb7
                        have r1 : -9223372036854775808 ≤ bv z + 1 ∧ bv z + 1 ≤ 9223372036854775807 := by omega
                        have r2 : -9223372036854775808 ≤ o2 ∧ o2 ≤ 9223372036854775807 := by omega
                        have r3 : -9223372036854775808 ≤ o3 ∧ o3 ≤ 9223372036854775807 := by omega
                        have hsl7 : Sl EOp (fun b => some b ≠ (Value.slice av q cv).ownBlock) (wr.drew.alloc (.cells #[.int .i64 (bv z + 1), .int .i64 o2, .int .i64 o3] 79)) (some ⟨wr.heap.size, 0, none⟩) [(bv z + 1, o2, o3)] :=
                          sl_one (heap_alloc_new wr.drew _) (op_mk r1 r2 r3) hv.fresh
                        clear hop g5 g6 ho2 ho3 hv40 r1 r2 r3
                        have hw1 : IntKind.i64.wrap (bv z + 1) = bv z + 1 := IntWalk.i64_in _ (by omega)
                        obtain ⟨vo, hvo⟩ : ∃ x, x = Value.slice av q cv := ⟨_, rfl⟩
                        rw [← hvo] at z2 hv7 hsl7 hhE hv
                        clear hvo
                        go_wp2_with fail
                        go_region_law ((rw [if_pos (by simp [Region.wanted])]); (refine step_app EOp (by rfl) (by rfl) (by rfl) ti_ops hv7 rfl hsl7 (by rw [Hvl.out]; unfold maxLen; simp; omega) (by rw [Hvl.out]; simp; omega) (by simp; omega) ?_; intro v8 w8 ho8 hg8 hv8 hb8; obtain ⟨a12, c12, rfl, hc12, hm12, hr12, ho12⟩ := ho8.shape (q + 1) (by simp [Hvl.out]); have k2 : w8.cell? ⟨E, 2, none⟩ = some vo := (by rw [hb8.cell (p := ⟨E, 2, none⟩) (Nat.lt_succ_self E)]; exact cell_thru z2 hb7); have kf : w8.frozen? ⟨E, 2, none⟩ = false := (by rw [hb8.frozen (p := ⟨E, 2, none⟩) (Nat.lt_succ_self E)]; exact (hb7.frozen (p := ⟨E, 2, none⟩) hEw).trans (by simp [World.frozen?, hhE]))))
                        all_goals
                          have hhE8 : w8.heap[E]? = some (.cells #[.int .i64 (ki + 1), .int .i64 (ci + 1), vo] 69 (0, 0)) := by
                            exact (hb8.block E (Nat.lt_succ_self E)).trans ((hb7.block E hEw).trans hhE)
                          have hE9 := heap_set hhE8 2 (.slice a12 (q + 1) c12)
                          have hbE9 : Below E wo (w8.setCell ⟨E, 2, none⟩ (.slice a12 (q + 1) c12)) := ((hbE.trans (hb7.mono (Nat.le_of_lt hEw))).trans (hb8.mono (Nat.le_succ E))).setCell (Nat.le_refl _) _
                          obtain ⟨a13, hcut13, hs13, hn13⟩ := cutS rfl hsu (5 + m2) (by omega) huc
                          have hcut13' : ∀ W : World, (Instr.slice 25 (.slice (some ⟨bu, ou, none⟩) u.length c9) (some (.int .i64 (5 + (m2 : Int)))) none none).run Try.prog W = .ok (.slice a13 (u.length - (5 + m2)) (c9 - (5 + m2))) W := by
                            rw [show (5 + (m2 : Int)) = ((5 + m2 : Nat) : Int) by omega]; exact hcut13
                          have hm2 : (m2 : Int) ≤ 800000 := by omega
                          have hnext : bv (BitVec.ofNat 64 q + 1#64) = bv (BitVec.ofNat 64 (q + 1)) := by rw [BitVec.ofNat_add]
                          have hbq' : bv (BitVec.ofNat 64 (q + 1)) = ((q + 1 : Nat) : Int) := by unfold bv; rw [BitVec.toNat_ofNat]; omega
                          have Hnext := Lib.hid hnext
                          have Hbq' := Lib.hid hbq'
                          have Hn13 := Lib.hid hn13
                          clear hnext hbq' hn13 hcut13 hk2 hk3 hw1
                          go_wp2_with fail
                          go_roundw
                          case rel =>
                            refine ⟨q + 1, ops ++ [(bv z + 1, o2, o3)], u.drop (5 + m2), a13, c9 - (5 + m2), .slice a12 (q + 1) c12, by omega, by rw [Hn13.out], by rw [← Hn13.out]; omega, by rw [← Hn13.out]; omega, by rw [Hnext.out], hs13, ho12.flat_set eop_flat (by simp), by simp [Hvl.out], by simpa using hE9, hbE9, ?_⟩
                            have hop := Hop.out
                            rw [← Ho2.out, ← Ho3.out] at hop
                            exact Bts.manyP_ok Hmq.out hop
                          case measure =>
                            rw [Hnext.out]
                            show M - (bv (BitVec.ofNat 64 (q + 1))).toNat < M - (bv (BitVec.ofNat 64 q)).toNat
                            rw [Hbq'.out, Hbq.out]
                            omega
                    · have hd := Hfail2.out f2 (G1.out hf2)
                      have Hd := Lib.hid hd
                      have hf2' : (f2 != 0) = true := by simpa using hf2
                      clear hd hf2
                      go_wp2_with fail
                      refine bodyPost_ret (v := .tuple #[.slice none 0 0, .int .i64 f2]) (by simp [results, Try.results34, go_sem]) rfl ?_
                      exact ⟨_, by rw [Hd.out], by rw [Hd.out]; exact Own.nil _ _ _ _, hbw⟩
                · have hlq' : ¬ (bv (BitVec.ofNat 64 q) < bv no) := by rw [Hbq.out, Hbm.out]; omega
                  obtain ⟨ww, hww⟩ : ∃ z, z = wr := ⟨_, rfl⟩
                  subst hww
                  have hqM : q = M := by omega
                  have hevp : Bk.evP t = .inl ((ki + 1, ci + 1, ops), u) := by
                    rw [Hki.out, Hci.out]
                    refine Ee1.out ops u ?_
                    rw [← Ht1.out, ← HM.out, ← hqM]; exact Hmq.out
                  have hmk := Bts.manyP_ok Hmany.out hevp
                  have Hmk := Lib.hid hmk
                  have hops12 : ops.length ≤ 12 := by rw [Hvl.out]; omega
                  obtain ⟨vo, hvo⟩ : ∃ x, x = Value.slice av q cv := ⟨_, rfl⟩
                  have hvs : Sl EOp (fun b => E + 1 ≤ b) ww av ops := Own.slO hv
                  have hb6 : Below ww.heap.size ww (ww.alloc (.cells #[.int .i64 (ki + 1), .int .i64 (ci + 1), .slice av q cv] 69)) := (Below.refl _ _).alloc (Nat.le_refl _) _
                  have hbo : Below wo.heap.size wo ww := by rw [← HE.out]; exact hbE
                  have how := ho.below hbo
                  have ho6 := how.below hb6
                  have hBw : B1 ≤ ww.heap.size := by omega
                  have hsl6 : Sl EEv (fun b => some b ≠ (Value.slice a8 k c8).ownBlock) (ww.alloc (.cells #[.int .i64 (ki + 1), .int .i64 (ci + 1), .slice av q cv] 69)) (some ⟨ww.heap.size, 0, none⟩) [(ki + 1, ci + 1, ops)] := by
                    refine sl_one (heap_alloc_new ww _) ?_ (how.fresh)
                    have he := ev_mk (ok := fun b => some b ≠ (Value.slice a8 k c8).ownBlock) (w := ww.alloc (.cells #[.int .i64 (ki + 1), .int .i64 (ci + 1), .slice av q cv] 69)) (k := ki + 1) (j := ci + 1) (a := av) (c := cv) (d := ops) (by omega) (by omega) (by rw [Hvl.out]; exact hqc) hcvm
                      (hvs.mono (by decide) fun b hb hlt => ⟨heap_alloc_old ww _ hlt, fun e => by have := (ho.lt b e.symm).2; have := HE.out; omega⟩)
                    rw [Hvl.out] at he
                    exact he
                  clear hmk hvo hqM hevp
                  go_wp2_with (first
                    | (refine wpList_app EEv rfl rfl (by rfl) (by rfl) ti_evs ho6 rfl hsl6 (by rw [Hol.out]; unfold maxLen; simp; omega) (by rw [Hol.out]; simp; omega) (by simp; omega) ?_
                       intro v8 w8 ho8 hg8 hv8 hb8))
                  have hnext : bv (BitVec.ofNat 64 k + 1#64) = bv (BitVec.ofNat 64 (k + 1)) := by rw [BitVec.ofNat_add]
                  have hbk' : bv (BitVec.ofNat 64 (k + 1)) = ((k + 1 : Nat) : Int) := by unfold bv; rw [BitVec.toNat_ofNat]; omega
                  have Hnext := Lib.hid hnext
                  have Hbk' := Lib.hid hbk'
                  clear hnext hbk'
                  go_roundw
                  case rel =>
                    refine ⟨k + 1, es ++ [(ki + 1, ci + 1, ops)], u, a9, c9, by omega, rfl, huc, hu8, by rw [Hnext.out], ?_, ho8, by simp [Hol.out], ?_, ?_, Hmk.out⟩
                    · exact (hsr.below (by decide) hb6).only (S := fun j => B1 ≤ j) (by decide) ⟨hb8.os, hb8.tape, hb8.output, hb8.size, fun j hj hn => hb8.block j (by omega)⟩ fun j hj => by omega
                    · exact (hbw.trans (hb6.mono (by omega))).trans (hb8.mono hB1)
                    · have := hb8.size; simp at this; omega
                  case measure =>
                    rw [Hnext.out]
                    show N - (bv (BitVec.ofNat 64 (k + 1))).toNat < N - (bv (BitVec.ofNat 64 k)).toNat
                    rw [Hbk'.out, Hbk.out]
                    omega
        · have hlt' : ¬ (bv (BitVec.ofNat 64 k) < bv n) := by rw [Hbk.out, Hbn.out]; omega
          have hfin := F6.out es t (by rw [← Ht0.out, show N = k by omega]; exact Hmany.out)
          have Hfin := Lib.hid hfin
          have hoB : Own EEv 69 B wo (.slice a8 k c8) es := ho.base hB1
          clear hfin ho
          by_cases h7 : 7 < t.length
          · have h7' : 7 < (t.length : Int) := by omega
            have hd : D = ([], 12) := by rw [Hfin.out, if_pos (.inl h7)]
            have Hd := Lib.hid hd
            clear hd h7
            go_wp2_with fail
            refine bodyPost_ret (v := .tuple #[.slice none 0 0, .int .i64 12]) (by simp [results, Try.results34, go_sem]) rfl ?_
            exact ⟨_, by rw [Hd.out], by rw [Hd.out]; exact Own.nil _ _ _ _, hb⟩
          · have h7' : ¬ (7 < (t.length : Int)) := by omega
            go_wp2_with fail
            go_loop [140] (fun i => ∃ q : Nat, q ≤ t.length ∧ i = .int .i64 q ∧ ∀ x ∈ t.take q, x = false) (fun i => t.length - (intOf i).toNat)
            case atStart => exact ⟨0, Nat.zero_le _, rfl, by simp⟩
            case round =>
              obtain ⟨q, hq, rfl, hzero⟩ := hrel
              by_cases hlq : q < t.length
              · have hqi : (q : Int) < (t.length : Int) := by omega
                obtain ⟨bu, ou, rfl, hcu⟩ := SB.at hs q (by rw [Bts.asB_len]; exact hlq)
                rw [Bts.asB_get t q hlq] at hcu
                have htk : t.take (q + 1) = t.take q ++ [t[q]] := (List.take_append_getElem hlq).symm
                have hmem : t[q] ∈ t := List.getElem_mem hlq
                have Hzero := Lib.hid hzero
                have Htk := Lib.hid htk
                clear hzero htk
                cases hx : t[q] with
                | true =>
                  have hd : D = ([], 12) := by rw [Hfin.out, if_pos (.inr (List.any_eq_true.2 ⟨true, by rw [← hx]; exact hmem, rfl⟩))]
                  have Hd := Lib.hid hd
                  rw [hx] at hcu
                  have hcu' : wo.cell? ⟨bu, ou + q, none⟩ = some (.int .u8 1) := hcu
                  clear hd hx hmem hcu
                  go_wp2_with fail
                  refine bodyPost_ret (v := .tuple #[.slice none 0 0, .int .i64 12]) (by simp [results, Try.results34, go_sem]) rfl ?_
                  exact ⟨_, by rw [Hd.out], by rw [Hd.out]; exact Own.nil _ _ _ _, hb⟩
                | false =>
                  rw [hx] at hcu
                  have hcu' : wo.cell? ⟨bu, ou + q, none⟩ = some (.int .u8 0) := hcu
                  have hz' : ∀ x ∈ t.take (q + 1), x = false := by
                    rw [Htk.out, hx]
                    intro x hx
                    rcases List.mem_append.1 hx with h | h
                    · exact Hzero.out x h
                    · exact List.mem_singleton.1 h
                  have Hz' := Lib.hid hz'
                  clear hz' hx hmem hcu
                  go_wp2_with fail
                  go_round
                  case rel => exact ⟨q + 1, by omega, by go_num, Hz'.out⟩
                  case measure => simp [intOf]; omega
              · have hqi : ¬ ((q : Int) < (t.length : Int)) := by omega
                rw [List.take_of_length_le (by omega)] at hzero
                have hd : D = (es, 0) := by
                  rw [Hfin.out, if_neg]
                  rintro (h | h)
                  · exact h7 h
                  · obtain ⟨x, hx, hx2⟩ := List.any_eq_true.1 h
                    rw [hzero x hx] at hx2
                    cases hx2
                have Hd := Lib.hid hd
                clear hd hzero
                go_wp2_with fail
                refine bodyPost_ret (v := .tuple #[.slice a8 k c8, .int .i64 0]) (by simp [results, Try.results34, go_sem]) rfl ?_
                exact ⟨_, by rw [Hd.out], by rw [Hd.out]; exact hoB, hb⟩
  · have hd := f1 hf
    have Hd := Lib.hid hd
    have hf' : (f != 0) = true := by simpa using hf
    clear f1 f2 hd hf
    go_wp2_with fail
    refine bodyPost_ret (v := .tuple #[.slice none 0 0, .int .i64 f]) (by simp [results, Try.results34, go_sem]) rfl ?_
    exact ⟨_, by rw [Hd.out], by rw [Hd.out]; exact Own.nil _ _ _ _, hb1⟩
end Go.Proofs.Ytennjoegjghlaaa


/-
  The law WalTorn, walked.
-/
import Derived.Test.YtmmgnbdngpkfcaaWalT
namespace Go.Proofs.Ytmmgnbdngpkfcaa
open Go.RowKit
set_option linter.unusedVariables false

def TornRel (B B1 gl gd : Nat) (w : World) (notes : List (List (BitVec 8))) (k : Nat) (D : Dk.Dsk) (wr : World) : Prop :=
  LgB B1 wr gl gd D ⟨1, [], notes.take k, false⟩ ∧ Wl.Std D ⟨1, [], notes.take k, false⟩ ∧ D.room = 1048576 ∧ D.acts = 3 + k ∧ (∀ n ∈ notes.take k, n.length ≤ 300) ∧ Below B w wr
theorem Wl.ok_torn {ns : List (List (BitVec 8))} {t : Nat} (ht : t ≤ 2) (h : ∀ n ∈ ns, n.length ≤ 300) (hl : ns.length ≤ 11) : Wl.Ok ⟨t, [], ns, false⟩ :=
  Wl.ok_of (by show t ≤ 1000000; omega) (by show (0 : Nat) ≤ 500; omega) (fun n hn => by have := h n hn; omega) (by show ns.length ≤ 1000; omega)

set_option maxRecDepth 100000 in
set_option maxHeartbeats 6400000 in
theorem law_WalTorn (a0 : Option Addr) (c0 : Nat) (ns : List (List (BitVec 8))) (a1 : Option Addr) (c1 : Nat) (jk : List (BitVec 8)) (a2 : Option Addr) (c2 : Nat) (mo : List (BitVec 8)) (w : World)
    (hs0 : Sl EBytes (fun _ => True) w a0 ns) (hc0 : ns.length ≤ c0) (hm0 : c0 ≤ maxLen) (hs1 : Sl EU8 (fun _ => True) w a1 jk) (hc1 : jk.length ≤ c1) (hm1 : c1 ≤ maxLen) (hs2 : Sl EU8 (fun _ => True) w a2 mo) (hc2 : mo.length ≤ c2) (hm2 : c2 ≤ maxLen) :
    Calls Try.prog 7 #[.slice a0 ns.length c0, .slice a1 jk.length c1, .slice a2 mo.length c2] w fun e w' => e = .returned (.bool true) ∧ Below w.heap.size w w' := by
  obtain ⟨B, hB⟩ : ∃ B, B = w.heap.size := ⟨_, rfl⟩
  rw [← hB]
  have HB := Lib.hid hB.symm
  obtain ⟨nN, hnN⟩ : ∃ n, n = ns.length := ⟨_, rfl⟩
  obtain ⟨nJ, hnJ⟩ : ∃ n, n = jk.length := ⟨_, rfl⟩
  obtain ⟨nM, hnM⟩ : ∃ n, n = mo.length := ⟨_, rfl⟩
  rw [← hnN] at hc0 ⊢
  rw [← hnJ] at hc1 ⊢
  rw [← hnM] at hc2 ⊢
  have Hs0 := Lib.hid (low_byts hs0 hB.symm)
  have Hs1 := Lib.hid (low_u8 hs1 hB.symm)
  have Hs2 := Lib.hid (low_u8 hs2 hB.symm)
  have HnN := Lib.hid hnN
  have HnJ := Lib.hid hnJ
  have HnM := Lib.hid hnM
  clear hB hs0 hs1 hs2 hnN hnJ hnM
  unfold maxLen at hm0 hm1 hm2
  by_cases hbig : 10 < nN ∨ 11 < nJ ∨ 300 < nM
  · have hq : decide ((10 : Int) < (nN : Int)) = true ∨ (decide ((10 : Int) < (nN : Int)) = false ∧ decide ((11 : Int) < (nJ : Int)) = true) ∨ (decide ((10 : Int) < (nN : Int)) = false ∧ decide ((11 : Int) < (nJ : Int)) = false ∧ decide ((300 : Int) < (nM : Int)) = true) := by
      by_cases h1 : 10 < nN
      · exact .inl (by simp; omega)
      · by_cases h2 : 11 < nJ
        · exact .inr (.inl ⟨by simp; omega, by simp; omega⟩)
        · exact .inr (.inr ⟨by simp; omega, by simp; omega, by simp; omega⟩)
    clear hbig
    rcases hq with h1 | ⟨h1, h2⟩ | ⟨h1, h2, h3⟩
    all_goals
      go_enter Try.func7, Try.ntmps7
      go_wp2_with fail
      refine (law17_head w).mono ?_
      rintro e w1 ⟨rfl, hb1⟩
      rw [HB.out] at hb1
      go_wp2_with fail
      go_ret
      exact ⟨rfl, hb1⟩
  · have hb0 : (nN : Int) ≤ 10 ∧ (nJ : Int) ≤ 11 ∧ (nM : Int) ≤ 300 := by omega
    obtain ⟨hN10, hJ11, hM300⟩ := hb0
    have hM2 : nM ≤ 300 := by omega
    clear hbig
    have hnew : (Dk.new 1048576).room = 1048576 := by decide
    obtain ⟨D1, e1, s1, r1, k1⟩ := Wl.open_new 1048576 (by rw [hnew]; decide)
    rw [hnew] at r1
    have E1 := Lib.hid e1
    have S1 := Lib.hid s1
    have R1 := Lib.hid r1
    have A1 := Lib.hid k1
    clear e1 s1 r1 k1 hnew
    go_enter Try.func7, Try.ntmps7
    go_wp2_with fail
    refine (law17_head w).mono ?_
    rintro e w1 ⟨rfl, hb1⟩
    rw [HB.out] at hb1
    obtain ⟨B1, hB1e⟩ : ∃ x, x = w1.heap.size := ⟨_, rfl⟩
    have hB1 : B ≤ B1 := by rw [hB1e, ← HB.out]; exact hb1.size
    have HB1 := Lib.hid hB1e
    clear hB1e
    go_wp2_with fail
    refine (b_New 1048576 B1 w1 HB1.out.symm (by decide)).mono ?_
    rintro e w2 ⟨rfl, h2, hb2⟩
    have hb2 := hb1.trans (hb2.mono hB1)
    go_wp2_with fail
    refine (b_Open' w2 h2 (by decide) (Wl.ok_torn (ns := []) (t := 1) (by decide) (fun n hn => by cases hn) (by decide)) E1.out).mono ?_
    rintro e w3 ⟨gl, rfl, h3, hb3⟩
    have hb3 := hb2.trans (hb3.mono hB1)
    have hrel0 : TornRel B B1 gl B1 w ns 0 D1 w3 := ⟨h3, S1.out, R1.out, A1.out, (fun n hn => by cases hn), hb3⟩
    have Hrel0 := Lib.hid hrel0
    clear h2 h3 hb2 hb3 hrel0
    go_wp2_with fail
    go_loopw [41] (fun i wr => ∃ (k : Nat) (D : Dk.Dsk), k ≤ nN ∧ i = .int .i64 k ∧ TornRel B B1 gl B1 w ns k D wr) (fun i _ => nN - (intOf i).toNat)
    case atStart => exact ⟨0, D1, Nat.zero_le _, rfl, Hrel0.out⟩
    case round =>
      obtain ⟨k, D, hk, rfl, hr⟩ := hrel
      by_cases hlt : k < nN
      · have hki : (k : Int) < (nN : Int) := by omega
        obtain ⟨hL, hS, hroom, hacts, hall, hb⟩ := hr
        have hkn : k < ns.length := by rw [← HnN.out]; exact hlt
        obtain ⟨b6, o6, a7, c7, rfl, -, p1, p2, p3, p4⟩ := byts_at (keep_low (by decide) Hs0.out hb) k hkn
        obtain ⟨d, hd⟩ : ∃ x, x = ns[k] := ⟨_, rfl⟩
        have htk : ns.take (k + 1) = ns.take k ++ [d] := by rw [take_snoc' ns k hkn, hd]
        rw [← hd] at p1 p2 p4
        obtain ⟨nd, hnd⟩ : ∃ n, n = d.length := ⟨_, rfl⟩
        rw [← hnd] at p1 p2
        unfold maxLen at p3
        have p5 : Sl EU8 (fun k => k < B1 ∨ wr.heap.size ≤ k) wr a7 d := p4.mono (by decide) fun q hq _ => ⟨rfl, .inl (Nat.lt_of_lt_of_le hq hB1)⟩
        have Hnd := Lib.hid hnd
        have Htk := Lib.hid htk
        have HS := Lib.hid hS
        have Hroom := Lib.hid hroom
        have Hacts := Lib.hid hacts
        have Hall := Lib.hid hall
        have Hkn := Lib.hid hkn
        clear hnd htk hS hroom hacts hall hd p4 hkn
        by_cases hdl : 300 < nd
        · have hdl2 : (300 : Int) < (nd : Int) := by omega
          clear p5
          go_wp2_with fail
          go_ret
          exact ⟨rfl, hb⟩
        · have hdl2 : (nd : Int) ≤ 300 := by omega
          have hd3 : nd ≤ 300 := by omega
          have hle : (ns.take k).length ≤ 10 := by rw [List.length_take]; omega
          have hok : Wl.Ok ⟨1, [], ns.take k, false⟩ := Wl.ok_torn (by decide) Hall.out (by omega)
          have htl := HS.out.tape_le
          have hen := Wl.encs_le Hall.out
          obtain ⟨D2, e2, s2, r2, a2, _, _⟩ := HS.out.app d (by rw [← Hnd.out]; omega) (by
            rw [Hroom.out, ← Hnd.out]
            have : (ns.take k).length * (12 + 300) ≤ 10 * (12 + 300) := Nat.mul_le_mul_right _ hle
            simp only [List.length_nil] at htl
            show (((D.t (1 % 2)).b.length : Nat) : Int) + _ + _ ≤ _
            omega)
          rw [Hroom.out] at r2
          rw [Hacts.out] at a2
          have E2 := Lib.hid e2
          have S2 := Lib.hid s2
          have R2 := Lib.hid r2
          have A2 := Lib.hid a2
          have Hok := Lib.hid hok
          clear e2 s2 r2 a2 hok htl hen hle
          go_wp2_with fail
          refine (b_Append _ _ _ d wr wr hL (Below.refl _ _) (by rw [Hacts.out]; omega) Hok.out Hnd.out (by omega) p5 E2.out).mono ?_
          rintro e w5 ⟨rfl, h5, hb5⟩
          have hb5 := hb.trans (hb5.mono hB1)
          have hnext : TornRel B B1 gl B1 w ns (k + 1) D2 w5 := by
            refine ⟨by rw [Htk.out]; exact h5, by rw [Htk.out]; exact S2.out, R2.out, by rw [A2.out]; push_cast; omega, fun n hn => ?_, hb5⟩
            rw [Htk.out] at hn
            rcases List.mem_append.1 hn with hn | hn
            · exact Hall.out n hn
            · rw [List.mem_singleton] at hn; subst hn; rw [← Hnd.out]; exact hd3
          have Hnext := Lib.hid hnext
          clear h5 hb5 hL hb p5 hnext
          go_wp2_with fail
          exact ⟨⟨k + 1, D2, by omega, by go_num, Hnext.out⟩, by simp [intOf]; omega⟩
      · obtain rfl : k = nN := by omega
        obtain ⟨hL, hS, hroom, hacts, hall, hb⟩ := hr
        have hfull : ns.take k = ns := by rw [List.take_of_length_le (by rw [← HnN.out]; exact Nat.le_refl _)]
        rw [hfull] at hL hS hall
        have hnl : ns.length ≤ 10 := by rw [← HnN.out]; omega
        have hok : Wl.Ok ⟨1, [], ns, false⟩ := Wl.ok_torn (by decide) hall (by omega)
        have htl := hS.tape_le
        have hen := Wl.encs_le hall
        have hmul : ns.length * (12 + 300) ≤ 10 * (12 + 300) := Nat.mul_le_mul_right _ hnl
        have hlb := Wl.layB_le ⟨1, [], ns, false⟩
        simp only [List.length_nil] at htl hlb
        have htl1 : (D.t 1).b.length ≤ 46 + 0 + (Frm.encs (Wl.nfs ns)).length := htl
        obtain ⟨DA, ea, ca, ra, aa, _, _⟩ := Wl.app_calm hS.calm 1 (by decide) jk (by rw [hroom]; show ((D.t 1).b.length : Int) + _ ≤ _; rw [← HnJ.out]; omega)
        obtain ⟨DF, ef, cf, rf, af, _, _⟩ := Wl.flush_calm ca 1 (by decide)
        obtain ⟨D3, t, e3, s3, r3, a31, a32, ht⟩ := Wl.torn_any hS hok rfl jk (by rw [← HnJ.out]; omega) (by rw [hroom]; omega) (by rw [hroom, ← HnJ.out]; omega) ea ef
        simp only at e3 s3
        have hok3 : Wl.Ok ⟨t, [], ns, false⟩ := Wl.ok_torn (by omega) hall (by omega)
        have htl3 := s3.tape_le
        simp only [List.length_nil] at htl3
        obtain ⟨D4, e4, s4, r4, a4, _, _⟩ := s3.app mo (by rw [← HnM.out]; omega) (by rw [r3, hroom, ← HnM.out]; show (((D3.t (t % 2)).b.length : Nat) : Int) + _ + _ ≤ _; omega)
        simp only at e4 s4
        have hok4 : Wl.Ok ⟨t, [], ns ++ [mo], false⟩ := Wl.ok_torn (by omega) (fun n hn => by
          rcases List.mem_append.1 hn with hn | hn
          · exact hall n hn
          · rw [List.mem_singleton] at hn; subst hn; rw [← HnM.out]; exact hM2) (by simp; omega)
        obtain ⟨D5, e5, s5, r5, a5, _⟩ := Wl.sync_std s4
        have e6 := Wl.open_std s5 hok4
        have EA := Lib.hid ea
        have EF := Lib.hid ef
        have E3 := Lib.hid e3
        have E4 := Lib.hid e4
        have E5 := Lib.hid e5
        have E6 := Lib.hid e6
        have hac : 0 ≤ D.acts ∧ D.acts ≤ 20 := by omega
        have hacA : 0 ≤ DA.acts ∧ DA.acts ≤ 8000000000000000000 := by omega
        have hacF : 0 ≤ DF.acts ∧ DF.acts ≤ 8000000000000000000 := by omega
        have hac3 : 0 ≤ D3.acts ∧ D3.acts ≤ 8000000000000000000 := by omega
        have hac4 : 0 ≤ D4.acts ∧ D4.acts ≤ 8000000000000000000 := by omega
        have hac5 : 0 ≤ D5.acts ∧ D5.acts ≤ 8000000000000000000 := by omega
        have Hok3 := Lib.hid hok3
        have Hok4 := Lib.hid hok4
        have Ht := Lib.hid ht
        have HAc := Lib.hid hac
        have HAcA := Lib.hid hacA
        have HAcF := Lib.hid hacF
        have HAc3 := Lib.hid hac3
        have HAc4 := Lib.hid hac4
        have HAc5 := Lib.hid hac5
        have hs1' := low_or (B1 := B1) (N := wr.heap.size) (by decide) Hs1.out hB1 hb
        have Hmul := Lib.hid hmul
        clear ea ca ra aa ef cf rf af e3 s3 r3 a31 a32 ht hok3 htl3 e4 s4 r4 a4 hok4 e5 s5 r5 a5 e6 hS hroom hacts hall hfull hok htl hen hlb htl1 hac hacA hacF hac3 hac4 hac5 hlt hnl hmul
        go_wp2_with fail
        refine (b_dApp a1 nJ c1 jk wr wr hL.dk (Below.refl _ _) (by have := HAc.out; omega) HnJ.out (by omega) hs1' EA.out).mono ?_
        rintro e w5 ⟨rfl, h5, hb5⟩
        have hb5 := hb.trans (hb5.mono hB1)
        clear hL hs1' hb
        go_wp2_with fail
        refine (b_dFlush w5 h5 HAcA.out EF.out).mono ?_
        rintro e w6 ⟨rfl, h6, hb6⟩
        have hb6 := hb5.trans (hb6.mono hB1)
        clear h5 hb5
        go_wp2_with fail
        refine (b_Open' w6 h6 HAcF.out Hok3.out E3.out).mono ?_
        rintro e w7 ⟨gk, rfl, h7, hb7⟩
        have hb7 := hb6.trans (hb7.mono hB1)
        clear h6 hb6
        have hs7 : RS EBytes w7 a0 k ns := ⟨HnN.out, (keep_low (by decide) Hs0.out hb7).any (by decide)⟩
        have heq : (([] : List (BitVec 8)) == [] && ns == ns) = true := by simp
        go_wp2_with fail
        refine (b_is none 0 0 [] a0 k c0 ns w7 h7 Hok3.out (RB.nil _ _) hs7 (by decide) (by omega)).mono ?_
        rw [heq]
        rintro e w8 ⟨rfl, h8, hb8⟩
        have hb8 := hb7.trans (hb8.mono (Nat.le_trans hB1 h7.size))
        have hs8 := low_or (B1 := B1) (N := w8.heap.size) (by decide) Hs2.out hB1 hb8
        clear h7 hb7 hs7 heq
        go_wp2_with fail
        refine (b_Append a2 nM c2 mo w8 w8 h8 (Below.refl _ _) HAc3.out Hok3.out HnM.out (by omega) hs8 E4.out).mono ?_
        rintro e w9 ⟨rfl, h9, hb9⟩
        have hb9 := hb8.trans (hb9.mono hB1)
        clear h8 hb8 hs8
        go_wp2_with fail
        refine (b_Sync w9 h9 HAc4.out (by have := Ht.out; show t ≤ 1099511627777; omega) E5.out).mono ?_
        rintro e wa ⟨rfl, ha, hba⟩
        have hba := hb9.trans (hba.mono hB1)
        clear h9 hb9
        go_wp2_with fail
        refine (b_Open' wa ha.dk HAc5.out Hok4.out E6.out).mono ?_
        rintro e wb ⟨gm, rfl, hb, hbb⟩
        have hbb := hba.trans (hbb.mono hB1)
        clear ha hba
        have hsb := keep_low (by decide) Hs0.out hbb
        have hmb := keep_low (by decide) Hs2.out hbb
        obtain ⟨wc, hwc⟩ : ∃ x, x = wb.alloc (.cells #[] 49) := ⟨_, rfl⟩
        have hbc : Below wb.heap.size wb wc := by rw [hwc]; exact alloc_below _ _
        have ho0 : Own EBytes 49 wb.heap.size wc (.slice (some ⟨wb.heap.size, 0, none⟩) 0 0) [] := by rw [hwc]; exact own_empty EBytes _ wb (by decide)
        have hBw : B ≤ wb.heap.size := Nat.le_trans hB1 hb.size
        have hsc : Sl EBytes (fun b => some b ≠ (Value.slice (some ⟨wb.heap.size, 0, none⟩) 0 0).ownBlock) wc a0 ns := low_ne (by decide) hsb (hbc.mono hBw) _ (fun x hx => by
          have : wb.heap.size = x := by injection hx
          omega)
        have HBw := Lib.hid hBw
        have heq : (([] : List (BitVec 8)) == [] && (ns ++ [mo]) == (ns ++ [mo])) = true := by simp
        have Heq := Lib.hid heq
        have hwc' := hwc
        clear hsb heq hwc
        have hnsl : ns.length ≤ 10 := by rw [← HnN.out]; omega
        go_wp2_with (first
          | (at_builtin
             rw [← hwc']
             refine wpList_appG EBytes (l2 := ns) rfl rfl (by rfl) (by rfl) ti_byts ho0 HnN.out hsc (by unfold maxLen; simp only [List.length_nil]; omega) (by simp only [List.length_nil]; omega) hbc.size ?_
             intro v6 w6 ho6 hg6 hv6 hb6
             clear hwc'
             have hbc6 : Below wb.heap.size wb w6 := hbc.trans hb6
             have hmb6 := keep_low (by decide) hmb (hbc6.mono HBw.out)
             obtain ⟨ho7, hsl7, hb67⟩ := byts_box (t2 := 49) HnM.out hc2 (by unfold maxLen; exact hm2) hmb6 ho6 HBw.out hbc6.size
             clear ho6 hg6 hv6)
          | (at_builtin
             go_loud (
             refine wpList_appG EBytes (l2 := [mo]) rfl rfl (by rfl) (by rfl) ti_byts ho7 rfl hsl7 (by unfold maxLen; simp only [List.nil_append, List.length_singleton]; omega) (by simp only [List.nil_append, List.length_singleton]; omega) (Nat.le_trans hbc6.size hb67.size) ?_
             intro v8 w8 ho8 hg8 hv8 hb8
             have hbz := hb.keep ((hbc6.trans hb67).trans hb8)
             have hbbz := hbb.trans (((hbc6.trans hb67).trans hb8).mono HBw.out)
             rw [List.nil_append] at ho8
             obtain ⟨n8, hn8⟩ : ∃ n, n = (ns ++ [mo]).length := ⟨_, rfl⟩
             obtain ⟨a8, c8, rfl, hc8, hm8, hr8, _⟩ := ho8.shape n8 hn8
             have hn8l : n8 ≤ 11 := by rw [hn8]; simp; omega
             clear hn8 ho8 hg8 hv8 ho7 hsl7)))
        all_goals
          refine (b_is none 0 0 [] _ _ _ (ns ++ [mo]) _ hbz Hok4.out (RB.nil _ _) hr8 (by decide) (by omega)).mono ?_
          rw [Heq.out]
          rintro e wz ⟨rfl, hz, hbZ⟩
          have hbend := hbbz.trans (hbZ.mono (Nat.le_trans hB1 hbz.size))
          clear hbz hr8 hz hbZ hbbz
          go_wp2_with fail
          go_ret
          exact ⟨rfl, hbend⟩
end Go.Proofs.Ytmmgnbdngpkfcaa

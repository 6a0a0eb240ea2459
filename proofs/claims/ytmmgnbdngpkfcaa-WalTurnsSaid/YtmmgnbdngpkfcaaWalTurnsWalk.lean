
/-
  The law WalTurns, walked.
-/
import Derived.Test.YtmmgnbdngpkfcaaWalT
namespace Go.Proofs.Ytmmgnbdngpkfcaa
open Go.RowKit
set_option linter.unusedVariables false

theorem law17_k0 (n : Nat) (w : World) (hn : n ≤ 4611686018427387904) :
    Calls Try.prog 38 #[.int .i64 n] w fun e w' => e = .returned (.int .i64 (Wl.tp n)) ∧ w = w' := by
  have e : (n : Int) % 2 = Wl.tp n := by unfold Wl.tp; omega
  have He := Lib.hid e
  clear e
  go_enter Try.func38, Try.ntmps38
  go_wp2_with fail
  rw [He.out]
  go_ret
  exact ⟨rfl, rfl⟩
namespace Wl
def lastS (l : List Byt) : Byt := l.getLast?.getD []
theorem lastS_snoc (l : List Byt) (x : Byt) : lastS (l ++ [x]) = x := by unfold lastS; simp
theorem ok_turns {t : Nat} {S : Byt} {ns : List Byt} (ht : t ≤ 100) (hS : S.length ≤ 500) (hn : ∀ n ∈ ns, n.length ≤ 500) (hl : ns.length ≤ 20) : Ok ⟨t, S, ns, false⟩ :=
  ok_of (by show t ≤ 1000000; omega) hS hn (by show ns.length ≤ 1000; omega)
end Wl
def TurnRel1 (B B1 gl gd : Nat) (w : World) (ss : List (List (BitVec 8))) (k : Nat) (D : Dk.Dsk) (wr : World) : Prop :=
  LgB B1 wr gl gd D ⟨k + 1, Wl.lastS (ss.take k), [], false⟩ ∧ Wl.Std D ⟨k + 1, Wl.lastS (ss.take k), [], false⟩ ∧ D.room = 1048576 ∧ (0 ≤ D.acts ∧ D.acts ≤ 3 + 3 * k) ∧ (Wl.lastS (ss.take k)).length ≤ 500 ∧ Below B w wr
def TurnRel2 (B B1 gl gd : Nat) (w : World) (n : Nat) (S : List (BitVec 8)) (ns : List (List (BitVec 8))) (k : Nat) (D : Dk.Dsk) (wr : World) : Prop :=
  LgB B1 wr gl gd D ⟨n + 1, S, ns.take k, false⟩ ∧ Wl.Std D ⟨n + 1, S, ns.take k, false⟩ ∧ D.room = 1048576 ∧ (0 ≤ D.acts ∧ D.acts ≤ 100 + k) ∧ (∀ n ∈ ns.take k, n.length ≤ 500) ∧ Below B w wr

set_option maxRecDepth 100000 in
set_option maxHeartbeats 6400000 in
theorem law_WalTurns (a0 : Option Addr) (c0 : Nat) (ss : List (List (BitVec 8))) (a1 : Option Addr) (c1 : Nat) (ns : List (List (BitVec 8))) (w : World)
    (hs0 : Sl EBytes (fun _ => True) w a0 ss) (hc0 : ss.length ≤ c0) (hm0 : c0 ≤ maxLen) (hs1 : Sl EBytes (fun _ => True) w a1 ns) (hc1 : ns.length ≤ c1) (hm1 : c1 ≤ maxLen) :
    Calls Try.prog 6 #[.slice a0 ss.length c0, .slice a1 ns.length c1] w fun e w' => e = .returned (.bool true) ∧ Below w.heap.size w w' := by
  obtain ⟨B, hB⟩ : ∃ B, B = w.heap.size := ⟨_, rfl⟩
  rw [← hB]
  have HB := Lib.hid hB.symm
  obtain ⟨nS, hnS⟩ : ∃ n, n = ss.length := ⟨_, rfl⟩
  obtain ⟨nN, hnN⟩ : ∃ n, n = ns.length := ⟨_, rfl⟩
  rw [← hnS] at hc0 ⊢
  rw [← hnN] at hc1 ⊢
  have Hs0 := Lib.hid (low_byts hs0 hB.symm)
  have Hs1 := Lib.hid (low_byts hs1 hB.symm)
  have HnS := Lib.hid hnS
  have HnN := Lib.hid hnN
  clear hB hs0 hs1 hnS hnN
  unfold maxLen at hm0 hm1
  by_cases hbig : 20 < nS ∨ 20 < nN
  · have hq : decide ((20 : Int) < (nS : Int)) = true ∨ (decide ((20 : Int) < (nS : Int)) = false ∧ decide ((20 : Int) < (nN : Int)) = true) := by
      by_cases h1 : 20 < nS
      · exact .inl (by simp; omega)
      · exact .inr ⟨by simp; omega, by simp; omega⟩
    clear hbig
    rcases hq with h1 | ⟨h1, h2⟩
    all_goals
      go_enter Try.func6, Try.ntmps6
      go_wp2_with fail
      refine (law17_head w).mono ?_
      rintro e w1 ⟨rfl, hb1⟩
      rw [HB.out] at hb1
      go_wp2_with fail
      go_ret
      exact ⟨rfl, hb1⟩
  · have hb0 : (nS : Int) ≤ 20 ∧ (nN : Int) ≤ 20 := by omega
    obtain ⟨hS20, hN20⟩ := hb0
    clear hbig
    have hnew : (Dk.new 1048576).room = 1048576 := by decide
    obtain ⟨D1, e1, s1, r1, k1⟩ := Wl.open_new 1048576 (by rw [hnew]; decide)
    rw [hnew] at r1
    have E1 := Lib.hid e1
    have S1 := Lib.hid s1
    have R1 := Lib.hid r1
    have A1 := Lib.hid k1
    clear e1 s1 r1 k1 hnew
    go_enter Try.func6, Try.ntmps6
    go_wp2_with fail
    refine (law17_head w).mono ?_
    rintro e w1 ⟨rfl, hb1⟩
    rw [HB.out] at hb1
    obtain ⟨B1, hB1e⟩ : ∃ x, x = w1.heap.size := ⟨_, rfl⟩
    have hB1 : B ≤ B1 := by rw [hB1e, ← HB.out]; exact hb1.size
    have HB1 := Lib.hid hB1e
    clear hB1e
    go_wp2_with fail
    refine (b_New 1048576 B1 w1 HB1.out.symm (by decide)).mono ?_
    rintro e w2 ⟨rfl, h2, hb2⟩
    have hb2 := hb1.trans (hb2.mono hB1)
    go_wp2_with fail
    refine (b_Open' w2 h2 (by decide) Wl.ok_one' E1.out).mono ?_
    rintro e w3 ⟨gl, rfl, h3, hb3⟩
    have hb3 := hb2.trans (hb3.mono hB1)
    have hrel0 : TurnRel1 B B1 gl B1 w ss 0 D1 w3 := ⟨h3, S1.out, R1.out, by rw [A1.out]; decide, (by show ([] : List (BitVec 8)).length ≤ 500; decide), hb3⟩
    have Hrel0 := Lib.hid hrel0
    clear h2 h3 hb2 hb3 hrel0
    go_wp2_with fail
    go_loopw [38] (fun i wr => ∃ (k : Nat) (D : Dk.Dsk), k ≤ nS ∧ i = .int .i64 k ∧ TurnRel1 B B1 gl B1 w ss k D wr) (fun i _ => nS - (intOf i).toNat)
    case atStart => exact ⟨0, D1, Nat.zero_le _, rfl, Hrel0.out⟩
    case round =>
      obtain ⟨k, D, hk, rfl, hr⟩ := hrel
      by_cases hlt : k < nS
      · have hki : (k : Int) < (nS : Int) := by omega
        obtain ⟨hL, hS, hroom, hacts, hall, hb⟩ := hr
        have hkn : k < ss.length := by rw [← HnS.out]; exact hlt
        obtain ⟨b6, o6, a7, c7, rfl, -, p1, p2, p3, p4⟩ := byts_at (keep_low (by decide) Hs0.out hb) k hkn
        obtain ⟨d, hd⟩ : ∃ x, x = ss[k] := ⟨_, rfl⟩
        have htk : Wl.lastS (ss.take (k + 1)) = d := by rw [take_snoc' ss k hkn, hd, Wl.lastS_snoc]
        rw [← hd] at p1 p2 p4
        obtain ⟨nd, hnd⟩ : ∃ n, n = d.length := ⟨_, rfl⟩
        rw [← hnd] at p1 p2
        unfold maxLen at p3
        have p5 : Sl EU8 (fun _ => True) wr a7 d := p4.any (by decide)
        have Hnd := Lib.hid hnd
        have Htk := Lib.hid htk
        have HS := Lib.hid hS
        have Hroom := Lib.hid hroom
        have Hacts := Lib.hid hacts
        have Hall := Lib.hid hall
        clear hnd htk hS hroom hacts hall hd p4 hkn
        by_cases hdl : 500 < nd
        · have hdl2 : (500 : Int) < (nd : Int) := by omega
          clear p5
          go_wp2_with fail
          go_ret
          exact ⟨rfl, hb⟩
        · have hdl2 : (nd : Int) ≤ 500 := by omega
          have hd3 : nd ≤ 500 := by omega
          have hok : Wl.Ok ⟨k + 1, Wl.lastS (ss.take k), [], false⟩ := Wl.ok_turns (by omega) Hall.out (fun n hn => by cases hn) (by decide)
          have hhl := Wl.hdata_len (k + 1 + 1) 0 d
          obtain ⟨D2, e2, s2, r2, a2⟩ := Wl.check_std HS.out hok d (by rw [← Hnd.out]; omega) (by
            rw [Hroom.out]
            show 12 + ((Wl.hdata (k + 1 + 1) 0 d).length : Int) ≤ _
            rw [← Hnd.out] at hhl
            omega)
          rw [Hroom.out] at r2
          have a2' : 0 ≤ D2.acts ∧ D2.acts ≤ 3 + 3 * ((k + 1 : Nat) : Int) := by have := Hacts.out; omega
          simp only at e2 s2
          have E2 := Lib.hid e2
          have S2 := Lib.hid s2
          have R2 := Lib.hid r2
          have A2 := Lib.hid a2'
          have Hok := Lib.hid hok
          have hturn : (((k + 1 + 1 : Nat)) : Int) = (k : Int) + 2 := by omega
          have Hturn := Lib.hid hturn
          clear e2 s2 r2 a2 a2' hok hhl hturn
          go_wp2_with fail
          refine (b_Check _ _ _ d wr hL (by have := Hacts.out; omega) Hok.out Hnd.out (by omega) p5 E2.out).mono ?_
          rintro e w5 ⟨rfl, h5, hb5⟩
          have hb5 := hb.trans (hb5.mono hB1)
          clear hL p5 hb
          go_wp2_with fail
          refine (b_Turn w5 h5).mono ?_
          rw [Hturn.out]
          rintro e wt ⟨rfl, rfl⟩
          have hnext : TurnRel1 B B1 gl B1 w ss (k + 1) D2 w5 := by
            refine ⟨by rw [Htk.out]; exact h5, by rw [Htk.out]; exact S2.out, R2.out, A2.out, by rw [Htk.out, ← Hnd.out]; exact hd3, hb5⟩
          have Hnext := Lib.hid hnext
          clear h5 hb5 hnext
          go_wp2_with fail
          exact ⟨⟨k + 1, D2, by omega, by go_num, Hnext.out⟩, by simp [intOf]; omega⟩
      · obtain rfl : k = nS := by omega
        obtain ⟨hL, hS, hroom, hacts, hall, hb⟩ := hr
        have hfull : ss.take k = ss := by rw [List.take_of_length_le (by rw [← HnS.out]; exact Nat.le_refl _)]
        rw [hfull] at hL hS hall
        obtain ⟨S, hSe⟩ : ∃ S, S = Wl.lastS ss := ⟨_, rfl⟩
        rw [← hSe] at hL hS hall
        have hrel2 : TurnRel2 B B1 gl B1 w k S ns 0 D wr := ⟨hL, hS, hroom, by omega, (fun n hn => by cases hn), hb⟩
        have Hrel2 := Lib.hid hrel2
        have HSe := Lib.hid hSe
        have HS5 := Lib.hid hall
        clear hL hS hroom hacts hall hb hfull hrel2 hSe hlt
        go_wp2_with fail
        obtain ⟨wo, hwo⟩ : ∃ z, z = wr := ⟨_, rfl⟩
        rw [← hwo]
        go_loopw [60] (fun i wr => ∃ (j : Nat) (D : Dk.Dsk), j ≤ nN ∧ i = .int .i64 j ∧ TurnRel2 B B1 gl B1 w k S ns j D wr) (fun i _ => nN - (intOf i).toNat)
        case atStart => exact ⟨0, D, Nat.zero_le _, rfl, by rw [hwo]; exact Hrel2.out⟩
        case round =>
          clear Hrel2 hwo
          obtain ⟨j, D, hj, rfl, hr⟩ := hrel
          by_cases hlt : j < nN
          · have hki : (j : Int) < (nN : Int) := by omega
            obtain ⟨hL, hS, hroom, hacts, hall, hb⟩ := hr
            have hkn : j < ns.length := by rw [← HnN.out]; exact hlt
            obtain ⟨b6, o6, a7, c7, rfl, -, p1, p2, p3, p4⟩ := byts_at (keep_low (by decide) Hs1.out hb) j hkn
            obtain ⟨d, hd⟩ : ∃ x, x = ns[j] := ⟨_, rfl⟩
            have htk : ns.take (j + 1) = ns.take j ++ [d] := by rw [take_snoc' ns j hkn, hd]
            rw [← hd] at p1 p2 p4
            obtain ⟨nd, hnd⟩ : ∃ n, n = d.length := ⟨_, rfl⟩
            rw [← hnd] at p1 p2
            unfold maxLen at p3
            have p5 : Sl EU8 (fun k => k < B1 ∨ wr.heap.size ≤ k) wr a7 d := p4.mono (by decide) fun q hq _ => ⟨rfl, .inl (Nat.lt_of_lt_of_le hq hB1)⟩
            have Hnd := Lib.hid hnd
            have Htk := Lib.hid htk
            have HS := Lib.hid hS
            have Hroom := Lib.hid hroom
            have Hacts := Lib.hid hacts
            have Hall := Lib.hid hall
            clear hnd htk hS hroom hacts hall hd p4 hkn
            by_cases hdl : 500 < nd
            · have hdl2 : (500 : Int) < (nd : Int) := by omega
              clear p5
              go_wp2_with fail
              go_ret
              exact ⟨rfl, hb⟩
            · have hdl2 : (nd : Int) ≤ 500 := by omega
              have hd3 : nd ≤ 500 := by omega
              have hle : (ns.take j).length ≤ 20 := by rw [List.length_take]; omega
              have hok : Wl.Ok ⟨k + 1, S, ns.take j, false⟩ := Wl.ok_turns (by omega) HS5.out Hall.out hle
              have htl := HS.out.tape_le
              have hen := Wl.encs_le Hall.out
              have hS5 := HS5.out
              obtain ⟨D2, e2, s2, r2, a2, _, _⟩ := HS.out.app d (by rw [← Hnd.out]; omega) (by
                rw [Hroom.out, ← Hnd.out]
                have : (ns.take j).length * (12 + 500) ≤ 20 * (12 + 500) := Nat.mul_le_mul_right _ hle
                simp only at htl
                show (((D.t ((k + 1) % 2)).b.length : Nat) : Int) + _ + _ ≤ _
                omega)
              rw [Hroom.out] at r2
              have a2' : 0 ≤ D2.acts ∧ D2.acts ≤ 100 + ((j + 1 : Nat) : Int) := by have := Hacts.out; omega
              have E2 := Lib.hid e2
              have S2 := Lib.hid s2
              have R2 := Lib.hid r2
              have A2 := Lib.hid a2'
              have Hok := Lib.hid hok
              clear e2 s2 r2 a2 a2' hok htl hen hle hS5
              go_wp2_with fail
              refine (b_Append _ _ _ d wr wr hL (Below.refl _ _) (by have := Hacts.out; omega) Hok.out Hnd.out (by omega) p5 E2.out).mono ?_
              rintro e w5 ⟨rfl, h5, hb5⟩
              have hb5 := hb.trans (hb5.mono hB1)
              have hnext : TurnRel2 B B1 gl B1 w k S ns (j + 1) D2 w5 := by
                refine ⟨by rw [Htk.out]; exact h5, by rw [Htk.out]; exact S2.out, R2.out, A2.out, fun n hn => ?_, hb5⟩
                rw [Htk.out] at hn
                rcases List.mem_append.1 hn with hn | hn
                · exact Hall.out n hn
                · rw [List.mem_singleton] at hn; subst hn; rw [← Hnd.out]; exact hd3
              have Hnext := Lib.hid hnext
              clear h5 hb5 hL hb p5 hnext
              go_wp2_with fail
              exact ⟨⟨j + 1, D2, by omega, by go_num, Hnext.out⟩, by simp [intOf]; omega⟩
          · obtain rfl : j = nN := by omega
            obtain ⟨hL, hS, hroom, hacts, hall, hb⟩ := hr
            have hfull : ns.take j = ns := by rw [List.take_of_length_le (by rw [← HnN.out]; exact Nat.le_refl _)]
            rw [hfull] at hL hS hall
            have hok : Wl.Ok ⟨k + 1, S, ns, false⟩ := Wl.ok_turns (by omega) HS5.out hall (by rw [← HnN.out]; omega)
            obtain ⟨D5, e5, s5, r5, a5, _⟩ := Wl.sync_std hS
            have e6 := Wl.open_std s5 hok
            have hread := Wl.read_calm s5.calm (Wl.tp k) (Wl.tp_range k)
            rw [Wl.tp_nat] at hread
            have hgt : ((D5.t (k % 2)).b.length = 0 ↔ k = 0) := by
              have e : (k + 1 + 1) % 2 = k % 2 := by omega
              rcases s5.there with ⟨h1, h2⟩ | ⟨h1, h2, _⟩
              · simp only at h1 h2
                rw [e] at h2
                rw [h2]; simp; omega
              · simp only at h1 h2
                rw [e] at h2
                omega
            have E5 := Lib.hid e5
            have E6 := Lib.hid e6
            have Hread := Lib.hid hread
            have Hgt := Lib.hid hgt
            have Hok := Lib.hid hok
            have ha : 0 ≤ D.acts ∧ D.acts ≤ 8000000000000000000 := by omega
            have ha5 : 0 ≤ D5.acts ∧ D5.acts ≤ 8000000000000000000 := by omega
            have Ha := Lib.hid ha
            have Ha5 := Lib.hid ha5
            clear hS hroom hacts hall hfull hok e5 s5 r5 a5 e6 hread hgt ha ha5 hlt
            go_wp2_with fail
            refine (b_Sync wr hL Ha.out (by show k + 1 ≤ _; omega) E5.out).mono ?_
            rintro e w5 ⟨rfl, h5, hb5⟩
            have hb5 := hb.trans (hb5.mono hB1)
            have hd5 := h5.dk
            clear hL hb h5
            obtain ⟨we, hwe⟩ : ∃ x, x = w5.alloc (.cells #[] 5) := ⟨_, rfl⟩
            have hbe : Below w5.heap.size w5 we := by rw [hwe]; exact alloc_below _ _
            have hBw5 : B ≤ w5.heap.size := Nat.le_trans hB1 hd5.size
            have hbe2 := hb5.trans (hbe.mono hBw5)
            have hde := hd5.keep hbe
            have hse := keep_low (by decide) Hs0.out hbe2
            have hne := keep_low (by decide) Hs1.out hbe2
            have Hse := Lib.hid hse
            have Hne := Lib.hid hne
            have Hde := Lib.hid hde
            have hturn : (((k + 1 : Nat)) : Int) = (k : Int) + 1 := by omega
            have Hturn := Lib.hid hturn
            have heq : (S == S && ns == ns) = true := by simp
            have Heq := Lib.hid heq
            clear hbe hb5 hd5 hse hne hde hturn heq
            go_upto_region 28 with fail
            rw [← hwe]
            have HBw5 := Lib.hid hBw5
            obtain ⟨pe, hpe⟩ : ∃ p, p = w5.heap.size := ⟨_, rfl⟩
            rw [← hpe]
            clear hwe hBw5 hpe
            obtain ⟨X, hX⟩ : ∃ X, X = (D5.t (k % 2)).b := ⟨_, rfl⟩
            rw [← hX] at Hread Hgt
            clear hX
            by_cases hk0 : k = 0
            · have hS0 : S = [] := by rw [HSe.out, List.eq_nil_of_length_eq_zero (l := ss) (by rw [← HnS.out]; exact hk0)]; rfl
              have hpos : decide (0 < k) = false := by simp; exact hk0
              have hfin : ∀ n : Nat, n = X.length → (decide (0 < n) = false) := fun n hn => by rw [hn, Hgt.out.2 hk0]; rfl
              have Hfin := Lib.hid hfin
              have HL : Hid (∀ wr, Below B we wr → RB wr (some ⟨pe, 0, none⟩) 0 S) := Lib.hid fun wr _ => (by rw [hS0]; exact RB.nil _ _)
              have hL140 : 0 ≤ 140737488355328 := by decide
              clear hk0 hS0 hfin
              go_wp2_with fail
              go_loopw [13] (fun i wr => ∃ q : Nat, q ≤ 2 ∧ i = .int .i64 q ∧ DkB B1 wr B1 D5 ∧ Below B we wr) (fun i _ => 2 - (intOf i).toNat)
              case atStart => exact ⟨0, by decide, rfl, Hde.out, Below.refl _ _⟩
              case round =>
                obtain ⟨q, hq, rfl, hD, hbr⟩ := hrel
                by_cases hlq : q < 2
                · have hqi : (q : Int) < 2 := by omega
                  have hbw := hbe2.trans hbr
                  go_wp2_with fail
                  refine (b_Open' wr hD Ha5.out Hok.out E6.out).mono ?_
                  rintro e w7 ⟨gk, rfl, h7, hb7⟩
                  have hb7 := hbr.trans (hb7.mono hB1)
                  clear hD hbr hbw
                  go_wp2_with fail
                  refine (b_Turn w7 h7).mono ?_
                  rw [Hturn.out]
                  rintro e wt ⟨rfl, rfl⟩
                  have hr1 := HL.out w7 hb7
                  have hr2 : RS EBytes w7 a1 j ns := ⟨HnN.out, (keep_low (by decide) Hne.out hb7).any (by decide)⟩
                  go_wp2_with fail
                  refine (b_is (some ⟨pe, 0, none⟩) 0 0 S a1 j c1 ns w7 h7 Hok.out hr1 hr2 hL140 (by omega)).mono ?_
                  rw [Heq.out]
                  rintro e w8 ⟨rfl, h8, hb8⟩
                  have hb8 := hb7.trans (hb8.mono (Nat.le_trans hB1 h7.size))
                  have hd8 := h8.dk
                  clear h7 hb7 hr1 hr2 h8
                  go_wp2_with fail
                  exact ⟨⟨q + 1, by omega, by go_num, hd8, hb8⟩, by simp [intOf]; omega⟩
                · obtain rfl : q = 2 := by omega
                  have hbw := hbe2.trans hbr
                  clear hbr
                  go_wp2_with fail
                  refine (law17_k0 k _ (by omega)).mono ?_
                  rintro e wt ⟨rfl, rfl⟩
                  go_wp2_with fail
                  refine (b_Read _ hD Hread.out).mono ?_
                  rintro e w9 ⟨v9, rfl, ho9, hd9, hb9⟩
                  obtain ⟨nX, hnX⟩ : ∃ n, n = X.length := ⟨_, rfl⟩
                  obtain ⟨aX, cX, rfl, hcX, hmX, _, _⟩ := ho9.shape nX hnX
                  have hlast := Hfin.out nX hnX
                  have hend := hbw.trans (hb9.mono (Nat.le_trans hB1 hD.size))
                  clear ho9 hnX hd9 hb9 hD
                  go_wp2_with fail
                  go_ret
                  exact ⟨rfl, hend⟩
            · obtain ⟨m, hm⟩ : ∃ m : Nat, k = m + 1 := ⟨k - 1, by omega⟩
              have hmS : m < ss.length := by rw [← HnS.out]; omega
              have hidx : (k : Int) - 1 = (m : Int) := by omega
              have hpos : decide (0 < k) = true := by simp; omega
              have hfin : ∀ n : Nat, n = X.length → (decide (0 < n) = true) := fun n hn => by
                have h1 := Hgt.out
                have : ¬ X.length = 0 := fun e => hk0 (h1.1 e)
                rw [hn]; simp; omega
              have Hfin := Lib.hid hfin
              obtain ⟨b6, o6, a7, c7, rfl, -, p1, p2, p3, p4⟩ := byts_at Hse.out m hmS
              have hSm : ss[m] = S := by
                have e : ss = ss.take m ++ [ss[m]] := by
                  conv => lhs; rw [← List.take_of_length_le (l := ss) (i := m + 1) (by rw [← HnS.out]; omega)]
                  exact take_snoc' ss m hmS
                rw [HSe.out]
                conv => rhs; rw [e]
                rw [Wl.lastS_snoc]
              rw [hSm] at p1 p2 p4
              obtain ⟨nd, hnd⟩ : ∃ n, n = S.length := ⟨_, rfl⟩
              rw [← hnd] at p1 p2
              unfold maxLen at p3
              have HL : Hid (∀ wr, Below B we wr → RB wr a7 nd S) := Lib.hid fun wr hb => ⟨hnd, (keep_low (by decide) p4 hb).any (by decide)⟩
              have hL140 : nd ≤ 140737488355328 := by rw [hnd]; have := HS5.out; omega
              have hmk : (m : Int) < (k : Int) := by omega
              clear hk0 hfin hm hmS hSm hnd p4
              go_wp2_with fail
              go_loopw [13] (fun i wr => ∃ q : Nat, q ≤ 2 ∧ i = .int .i64 q ∧ DkB B1 wr B1 D5 ∧ Below B we wr) (fun i _ => 2 - (intOf i).toNat)
              case atStart => exact ⟨0, by decide, rfl, Hde.out, Below.refl _ _⟩
              case round =>
                obtain ⟨q, hq, rfl, hD, hbr⟩ := hrel
                by_cases hlq : q < 2
                · have hqi : (q : Int) < 2 := by omega
                  have hbw := hbe2.trans hbr
                  go_wp2_with fail
                  refine (b_Open' wr hD Ha5.out Hok.out E6.out).mono ?_
                  rintro e w7 ⟨gk, rfl, h7, hb7⟩
                  have hb7 := hbr.trans (hb7.mono hB1)
                  clear hD hbr hbw
                  go_wp2_with fail
                  refine (b_Turn w7 h7).mono ?_
                  rw [Hturn.out]
                  rintro e wt ⟨rfl, rfl⟩
                  have hr1 := HL.out w7 hb7
                  have hr2 : RS EBytes w7 a1 j ns := ⟨HnN.out, (keep_low (by decide) Hne.out hb7).any (by decide)⟩
                  go_wp2_with fail
                  refine (b_is a7 nd c7 S a1 j c1 ns w7 h7 Hok.out hr1 hr2 hL140 (by omega)).mono ?_
                  rw [Heq.out]
                  rintro e w8 ⟨rfl, h8, hb8⟩
                  have hb8 := hb7.trans (hb8.mono (Nat.le_trans hB1 h7.size))
                  have hd8 := h8.dk
                  clear h7 hb7 hr1 hr2 h8
                  go_wp2_with fail
                  exact ⟨⟨q + 1, by omega, by go_num, hd8, hb8⟩, by simp [intOf]; omega⟩
                · obtain rfl : q = 2 := by omega
                  have hbw := hbe2.trans hbr
                  clear hbr
                  go_wp2_with fail
                  refine (law17_k0 k _ (by omega)).mono ?_
                  rintro e wt ⟨rfl, rfl⟩
                  go_wp2_with fail
                  refine (b_Read _ hD Hread.out).mono ?_
                  rintro e w9 ⟨v9, rfl, ho9, hd9, hb9⟩
                  obtain ⟨nX, hnX⟩ : ∃ n, n = X.length := ⟨_, rfl⟩
                  obtain ⟨aX, cX, rfl, hcX, hmX, _, _⟩ := ho9.shape nX hnX
                  have hlast := Hfin.out nX hnX
                  have hend := hbw.trans (hb9.mono (Nat.le_trans hB1 hD.size))
                  clear ho9 hnX hd9 hb9 hD
                  go_wp2_with fail
                  go_ret
                  exact ⟨rfl, hend⟩
end Go.Proofs.Ytmmgnbdngpkfcaa


/-
  What the document's own encoder of setups and scripts computes.
-/
import Derived.Test.YtdpopdgeipgheaaDoorScrF
import Derived.Test.YtdpopdgeipgheaaDoorScrS
import Derived.Test.YtdpopdgeipgheaaDoorCar
import Derived.Test.YtdpopdgeipgheaaDoorBtsRefText
namespace Go.Proofs.YtdpopdgeipgheaaDoor
open Go.RowKit
set_option linter.unusedVariables false

theorem int_asB {i : Int} (hi : Bts.i64 i) : (Bts.asB (Bts.int i)).length ≤ 129 := by
  rw [Bts.asB_len]; exact Sc.int_len i
theorem size_rconf : (Tryd.prog.info? 39).map (·.size) = some 16 := by kernel_rfl
theorem n_index0 (c : Sc.Conf) (W : World) : (Instr.index 37 (.agg (ncells c)) (.int .i64 0)).run Tryd.prog W = .ok (.int .i64 (Sc.cf c 0)) W := by kernel_rfl
theorem n_index1 (c : Sc.Conf) (W : World) : (Instr.index 37 (.agg (ncells c)) (.int .i64 1)).run Tryd.prog W = .ok (.int .i64 (Sc.cf c 1)) W := by kernel_rfl
theorem n_index2 (c : Sc.Conf) (W : World) : (Instr.index 37 (.agg (ncells c)) (.int .i64 2)).run Tryd.prog W = .ok (.int .i64 (Sc.cf c 2)) W := by kernel_rfl
theorem n_index3 (c : Sc.Conf) (W : World) : (Instr.index 37 (.agg (ncells c)) (.int .i64 3)).run Tryd.prog W = .ok (.int .i64 (Sc.cf c 3)) W := by kernel_rfl
theorem n_index4 (c : Sc.Conf) (W : World) : (Instr.index 37 (.agg (ncells c)) (.int .i64 4)).run Tryd.prog W = .ok (.int .i64 (Sc.cf c 4)) W := by kernel_rfl
theorem n_index5 (c : Sc.Conf) (W : World) : (Instr.index 37 (.agg (ncells c)) (.int .i64 5)).run Tryd.prog W = .ok (.int .i64 (Sc.cf c 5)) W := by kernel_rfl
theorem n_index6 (c : Sc.Conf) (W : World) : (Instr.index 37 (.agg (ncells c)) (.int .i64 6)).run Tryd.prog W = .ok (.int .i64 (Sc.cf c 6)) W := by kernel_rfl
theorem n_index7 (c : Sc.Conf) (W : World) : (Instr.index 37 (.agg (ncells c)) (.int .i64 7)).run Tryd.prog W = .ok (.int .i64 (Sc.cf c 7)) W := by kernel_rfl
theorem n_index8 (c : Sc.Conf) (W : World) : (Instr.index 37 (.agg (ncells c)) (.int .i64 8)).run Tryd.prog W = .ok (.int .i64 (Sc.cf c 8)) W := by kernel_rfl
theorem n_index9 (c : Sc.Conf) (W : World) : (Instr.index 37 (.agg (ncells c)) (.int .i64 9)).run Tryd.prog W = .ok (.int .i64 (Sc.cf c 9)) W := by kernel_rfl
theorem n_index10 (c : Sc.Conf) (W : World) : (Instr.index 37 (.agg (ncells c)) (.int .i64 10)).run Tryd.prog W = .ok (.int .i64 (Sc.cf c 10)) W := by kernel_rfl
theorem n_index11 (c : Sc.Conf) (W : World) : (Instr.index 37 (.agg (ncells c)) (.int .i64 11)).run Tryd.prog W = .ok (.int .i64 (Sc.cf c 11)) W := by kernel_rfl
theorem n_index12 (c : Sc.Conf) (W : World) : (Instr.index 37 (.agg (ncells c)) (.int .i64 12)).run Tryd.prog W = .ok (.int .i64 (Sc.cf c 12)) W := by kernel_rfl
theorem n_index13 (c : Sc.Conf) (W : World) : (Instr.index 37 (.agg (ncells c)) (.int .i64 13)).run Tryd.prog W = .ok (.int .i64 (Sc.cf c 13)) W := by kernel_rfl
theorem n_index14 (c : Sc.Conf) (W : World) : (Instr.index 37 (.agg (ncells c)) (.int .i64 14)).run Tryd.prog W = .ok (.int .i64 (Sc.cf c 14)) W := by kernel_rfl
theorem n_index (c : Sc.Conf) (j : Nat) (h : j < 15) (W : World) : (Instr.index 37 (.agg (ncells c)) (.int .i64 (j : Int))).run Tryd.prog W = .ok (.int .i64 (Sc.cf c j)) W := by
  have e : j = 0 ∨ j = 1 ∨ j = 2 ∨ j = 3 ∨ j = 4 ∨ j = 5 ∨ j = 6 ∨ j = 7 ∨ j = 8 ∨ j = 9 ∨ j = 10 ∨ j = 11 ∨ j = 12 ∨ j = 13 ∨ j = 14 := by omega
  rcases e with rfl | rfl | rfl | rfl | rfl | rfl | rfl | rfl | rfl | rfl | rfl | rfl | rfl | rfl | rfl
  · exact n_index0 c W
  · exact n_index1 c W
  · exact n_index2 c W
  · exact n_index3 c W
  · exact n_index4 c W
  · exact n_index5 c W
  · exact n_index6 c W
  · exact n_index7 c W
  · exact n_index8 c W
  · exact n_index9 c W
  · exact n_index10 c W
  · exact n_index11 c W
  · exact n_index12 c W
  · exact n_index13 c W
  · exact n_index14 c W
namespace Sc
theorem cf_get' (c : Conf) (j : Nat) (h : j < c.1.length) : c.1[j] = cf c j := by
  unfold cf; rw [List.getD_eq_getElem?_getD, List.getElem?_eq_getElem h]; rfl
end Sc

set_option maxRecDepth 100000 in
set_option maxHeartbeats 6400000 in
theorem ref14_Encode (B : Nat) (c : Sc.Conf) (aL : Option Addr) (nL cL : Nat) (L : List Sc.Step) (w : World) (hB : w.heap.size = B) (hc : c.1.length = 15) (hL : RS EStp w aL nL L) (hLc : nL ≤ cL) (hLm : cL ≤ maxLen) (hT : Sc.encErr (c, L) = 0 → (Sc.allBits (c, L)).length ≤ 1900000) :
    Calls Tryd.prog 11 #[.agg (rcells c), .slice aL nL cL] w fun e w' => ∃ v, e = .returned (.tuple #[v, .int .i64 (Sc.encErr (c, L))]) ∧ Own EU8 5 B w' v (Sc.encOut (c, L)) ∧ Below B w w' := by
  obtain ⟨rfl, hLs⟩ := hL
  obtain ⟨er, her⟩ : ∃ x, x = Sc.encErr (c, L) := ⟨_, rfl⟩
  obtain ⟨out, hout⟩ : ∃ x, x = Sc.encOut (c, L) := ⟨_, rfl⟩
  have hfail : ∀ e : Int, er = e → e ≠ 0 → out = [] := fun e h h0 => by rw [hout]; unfold Sc.encOut; rw [if_neg (by rw [← her, h]; exact h0)]
  rw [← her] at hT
  rw [← her, ← hout]
  have Her := Lib.hid her
  have Hout := Lib.hid hout
  have HB := Lib.hid hB
  have HL := Lib.hid hLs
  have HT := Lib.hid hT
  have Hfail := Lib.hid hfail
  obtain ⟨w1, hw1⟩ : ∃ x, x = w.alloc (.cells (rcells c) 39) := ⟨_, rfl⟩
  have hh1 : w1.heap[B]? = some (.cells (rcells c) 39 (0, 0)) := by subst hw1; subst hB; exact heap_alloc_new w _
  have hb1 : Below B w w1 := by subst hw1; subst hB; exact (Below.refl _ _).alloc (Nat.le_refl _) _
  have hn1 : w1.heap.size = B + 1 := by subst hw1; subst hB; simp
  have Hh1 := Lib.hid hh1
  have Hb1 := Lib.hid hb1
  have Hn1 := Lib.hid hn1
  have Hc := Lib.hid hc
  clear her hout hLs hfail hT hh1 hb1 hn1 hc
  unfold rcells at hw1 ⊢
  go_enter Tryd.func11, Tryd.ntmps11
  go_upto_region 1 with fail
  rw [← hw1]
  clear hw1
  go_wp2_with (refine wpList_loadRow rfl _ _ rfl B rfl (rcells c) _ (0, 0) _ Hh1.out Tryd.underlying39 rfl size_rconf ?_)
  refine (ref14_Check c w1).mono ?_
  rintro e w2 ⟨rfl, hb2⟩
  rw [Hn1.out] at hb2
  have hh2 : w2.heap[B]? = some (.cells (rcells c) 39 (0, 0)) := by rw [hb2.block B (by omega)]; exact Hh1.out
  have hbw2 : Below B w w2 := Hb1.out.trans (hb2.mono (by omega))
  have hs2 : B + 1 ≤ w2.heap.size := by have := hb2.size; rw [Hn1.out] at this; exact this
  have Hh2 := Lib.hid hh2
  have Hbw2 := Lib.hid hbw2
  clear hb2 hh2 hbw2 hB
  by_cases hk : Sc.check c = 0
  case neg =>
    have he : er = Sc.check c := by rw [Her.out]; unfold Sc.encErr; rw [if_neg hk]
    obtain ⟨z, hz⟩ : ∃ z, z = Sc.check c := ⟨_, rfl⟩
    rw [← hz] at he hk ⊢
    have ho := Hfail.out z he hk
    subst he
    subst ho
    have hz0 : (er != 0) = true := by simpa using hk
    clear hz hk
    go_wp2_with fail
    refine bodyPost_ret (v := .tuple #[.slice none 0 0, .int .i64 er]) (by simp [results, Tryd.results11, go_sem]) rfl ?_
    exact ⟨_, rfl, Own.nil _ _ _ _, Hbw2.out⟩
  rw [hk]
  have her2 : er = if 20000 < L.length then 4 else 0 := by rw [Her.out]; unfold Sc.encErr; rw [if_pos hk]
  have Her2 := Lib.hid her2
  clear hk her2
  by_cases h2 : 20000 < L.length
  · have h2' : 20000 < (L.length : Int) := by omega
    have he : er = 4 := by rw [Her2.out, if_pos h2]
    have ho := Hfail.out 4 he (by decide)
    subst he
    subst ho
    clear h2
    go_wp2_with fail
    refine bodyPost_ret (v := .tuple #[.slice none 0 0, .int .i64 4]) (by simp [results, Tryd.results11, go_sem]) rfl ?_
    exact ⟨_, rfl, Own.nil _ _ _ _, Hbw2.out⟩
  have h2' : ¬ (20000 < (L.length : Int)) := by omega
  have he : er = 0 := by rw [Her2.out, if_neg h2]
  have hT := HT.out he
  have ho : out = Bts.pack (Sc.allBits (c, L)) := by rw [Hout.out]; unfold Sc.encOut; rw [if_pos (by rw [← Her.out]; exact he)]
  subst he
  have Ho := Lib.hid ho
  have HT2 := Lib.hid hT
  clear ho hT h2
  obtain ⟨w3, hw3⟩ : ∃ x, x = w2.alloc (.cells #[] 5) := ⟨_, rfl⟩
  have hb3 : Below w2.heap.size w2 w3 := by subst hw3; exact (Below.refl _ _).alloc (Nat.le_refl _) _
  have ho3 : Own EU8 5 w2.heap.size w3 (.slice (some ⟨w2.heap.size, 0, none⟩) 0 0) [] := by subst hw3; exact own_empty EU8 5 w2 (by decide)
  have hh3 : w3.heap[B]? = some (.cells (rcells c) 39 (0, 0)) := by rw [hb3.block B (by omega)]; exact Hh2.out
  have hr3 : w3.rangeAt B 0 (ncells c).toList := World.rangeAt_of_block hh3 0 15
  have hcar : Car B w B (.cells (rcells c) 39 (0, 0)) w3 (.slice (some ⟨w2.heap.size, 0, none⟩) 0 0) (Bts.asB (Sc.numsBits (c.1.take 0))) := by
    refine ⟨ho3.base (by omega), Hbw2.out.trans (hb3.mono (by omega)), hh3, ?_, by have := hb3.size; omega⟩
    simp [Value.ownBlock]; omega
  have Hcar := Lib.hid hcar
  have Hr3 := Lib.hid hr3
  have hex3 := hw3.symm
  clear hb3 ho3 hh3 hr3 hcar hw3
  go_upto_region 7 with fail
  clear hex3
  go_wp2_with (refine wpList_load_mid rfl _ _ rfl B 0 rfl (ncells c).toList _ Hr3.out Tryd.underlying37 rfl size_15 ?_)
  clear Hr3
  go_loopw [7, 25] (fun t i wr => ∃ (j : Nat), j ≤ 15 ∧ i = .int .i64 j ∧ RowKit.Hid (Car B w B (.cells (rcells c) 39 (0, 0)) wr t (Bts.asB (Sc.numsBits (c.1.take j))))) (fun _ i _ => 15 - (intOf i).toNat)
  case atStart => exact ⟨0, Nat.zero_le _, rfl, Hcar⟩
  case round =>
    obtain ⟨j, hj, rfl, Hca⟩ := hrel
    clear Hcar
    have car := Hca.out
    by_cases hlt : j < 15
    · have hji : (j : Int) < 15 := by omega
      have hidx := n_index c j hlt
      have hsn := Sc.numsBits_snoc c.1 j (by rw [Hc.out]; exact hlt)
      rw [Sc.cf_get'] at hsn
      have hlen : (Bts.asB (Sc.numsBits (c.1.take j))).length ≤ 2000 := by
        have := Sc.numsBits_len (c.1.take j)
        rw [List.length_take] at this
        rw [Bts.asB_len]; omega
      obtain ⟨y, hy⟩ : ∃ y, y = Sc.cf c j := ⟨_, rfl⟩
      rw [← hy] at hidx hsn
      obtain ⟨S, hS⟩ : ∃ S, S = Sc.numsBits (c.1.take j) := ⟨_, rfl⟩
      rw [← hS] at car hsn hlen
      have Hsn := Lib.hid hsn
      clear hsn hy hS Hca
      go_wp2_with fail
      refine (ref_Num (BitVec.ofInt 64 y) _ _ (by rfl)).mono ?_
      rintro e wpa ⟨vpa, rfl, hpa, hbpa⟩
      obtain ⟨apa, cpa, rfl, sla, carpa⟩ := car.call hbpa hpa
      clear car hpa hbpa
      go_wp2_with (first | (refine wpList_app EU8 rfl rfl (by rfl) (by rfl) ti_bytes carpa.own rfl sla (app_max (by omega) (Nat.le_trans (num_asB (BitVec.ofInt 64 y)) (by decide))) (app_bytes (by omega) (Nat.le_trans (num_asB (BitVec.ofInt 64 y)) (by decide))) carpa.size ?_; intro vqa wqa hoa hga hva hba; have carqa := carpa.app hoa hga hva hba; clear hoa hga hva hba carpa))
      obtain ⟨Sa, hSa⟩ : ∃ S', S' = S ++ Bts.num (BitVec.ofInt 64 y) := ⟨_, rfl⟩
      rw [← Bts.asB_app, ← hSa] at carqa
      have hla : (Bts.asB Sa).length ≤ 3000 := by rw [hSa, Bts.asB_app, List.length_append]; have := num_asB (BitVec.ofInt 64 y); omega
      have HSa := Lib.hid hSa
      clear hSa
      go_wp2_with fail
      go_roundw
      case rel =>
        refine ⟨j + 1, by omega, by go_num, Lib.hid ?_⟩
        rw [Hsn.out, ← HSa.out]; exact carqa
      case measure => simp [intOf]; omega
    · have hji : ¬ ((j : Int) < 15) := by omega
      have htk : c.1.take j = c.1 := List.take_of_length_le (by rw [Hc.out]; omega)
      rw [htk] at car
      have hlN : (Bts.asB (Sc.numsBits c.1)).length ≤ 2000 := by
        have := Sc.numsBits_len c.1
        rw [Bts.asB_len]
        rw [Hc.out] at this; omega
      have hsd := car.cell 15 (.int .u64 (bv c.2)) rfl
      obtain ⟨N, hN⟩ : ∃ N, N = Sc.numsBits c.1 := ⟨_, rfl⟩
      rw [← hN] at car hlN
      have HN := Lib.hid hN
      clear htk hN Hca
      go_upto_region 12 with fail
      go_wp2_with fail
      refine (ref_Put c.2 64 _ _ (by rfl) (by decide)).mono ?_
      rintro e wpb ⟨vpb, rfl, hpb, hbpb⟩
      obtain ⟨apb, cpb, rfl, slb, carpb⟩ := car.call hbpb hpb
      clear car hpb hbpb
      go_wp2_with (first | (refine wpList_app EU8 rfl rfl (by rfl) (by rfl) ti_bytes carpb.own rfl slb (app_max (by omega) (Nat.le_trans (put_asB c.2 64) (by decide))) (app_bytes (by omega) (Nat.le_trans (put_asB c.2 64) (by decide))) carpb.size ?_; intro vqb wqb hob hgb hvb hbb; have carqb := carpb.app hob hgb hvb hbb; clear hob hgb hvb hbb carpb))
      obtain ⟨Sb, hSb⟩ : ∃ S', S' = N ++ Bts.put c.2 64 := ⟨_, rfl⟩
      rw [← Bts.asB_app, ← hSb] at carqb
      have hlb : (Bts.asB Sb).length ≤ 3000 := by rw [hSb, Bts.asB_app, List.length_append]; have := put_asB c.2 64; omega
      have HSb := Lib.hid hSb
      clear hSb
      clear hsd
      go_wp2_with fail
      refine (ref_Num (BitVec.ofInt 64 L.length) _ _ (by rfl)).mono ?_
      rintro e wpk ⟨vpk, rfl, hpk, hbpk⟩
      obtain ⟨apk, cpk, rfl, slk, carpk⟩ := carqb.call hbpk hpk
      clear carqb hpk hbpk
      go_wp2_with (first | (refine wpList_app EU8 rfl rfl (by rfl) (by rfl) ti_bytes carpk.own rfl slk (app_max (by omega) (Nat.le_trans (num_asB (BitVec.ofInt 64 L.length)) (by decide))) (app_bytes (by omega) (Nat.le_trans (num_asB (BitVec.ofInt 64 L.length)) (by decide))) carpk.size ?_; intro vqk wqk hok hgk hvk hbk; have carqk := carpk.app hok hgk hvk hbk; clear hok hgk hvk hbk carpk))
      obtain ⟨Sk, hSk⟩ : ∃ S', S' = Sb ++ Bts.num (BitVec.ofInt 64 L.length) := ⟨_, rfl⟩
      rw [← Bts.asB_app, ← hSk] at carqk
      have hlk : (Bts.asB Sk).length ≤ 4000 := by rw [hSk, Bts.asB_app, List.length_append]; have := num_asB (BitVec.ofInt 64 L.length); omega
      have HSk := Lib.hid hSk
      clear hSk
      have hall : Sc.allBits (c, L) = Sk ++ Sc.stepsBits L := by
        rw [HSk.out, HSb.out, HN.out]
        simp only [Sc.allBits, Sc.confBits, List.append_assoc]
        rfl
      have hT := HT2.out
      rw [hall, List.length_append] at hT
      have Hall := Lib.hid hall
      have HT3 := Lib.hid hT
      have Hoc := Lib.hid (And.intro carqk.own carqk.below)
      clear hall hT hlN hlb hlk HSb carqk
      obtain ⟨P, hP⟩ : ∃ P, P = Sk := ⟨_, rfl⟩
      rw [← hP] at Hall HT3 Hoc
      go_wp2_with fail
      go_loopw [7, 47] (fun t i wr => ∃ (j : Nat), j ≤ L.length ∧ i = .int .i64 j ∧ RowKit.Hid (Own EU8 5 B wr t (Bts.asB (P ++ Sc.stepsBits (L.take j))) ∧ Below B w wr)) (fun _ i _ => L.length - (intOf i).toNat)
      case atStart => exact ⟨0, Nat.zero_le _, rfl, by simpa [Sc.stepsBits] using Hoc⟩
      case round =>
        obtain ⟨j, hj, rfl, Hob⟩ := hrel
        clear Hoc
        obtain ⟨ho, hbw⟩ := Hob.out
        by_cases hlt : j < L.length
        · have hji : (j : Int) < (L.length : Int) := by omega
          have hsn := Sc.stepsBits_snoc L j hlt
          have hlen2 : (P ++ Sc.stepsBits (L.take j) ++ Sc.stepBits L[j]).length ≤ 1900000 := by
            have h1 := Sc.flat_len_le Sc.stepBits L (j + 1)
            have h3 := HT3.out
            have h4 := congrArg List.length hsn
            rw [List.length_append] at h4
            unfold Sc.stepsBits at h3 h4 ⊢
            rw [List.length_append, List.length_append]; omega
          obtain ⟨b1, o1, aK, cK, rfl, _, p0, p1, p2, p3, i0, i1, i2, hcK, hmK, hsK⟩ := sl_stp HL.out j hlt
          have kw : ∀ {o : Nat} {u : Value}, w.cell? ⟨b1, o, none⟩ = some u → wr.cell? ⟨b1, o, none⟩ = some u := fun h => cell_thru h (by rw [HB.out]; exact hbw)
          have q0 := kw p0
          have q1 := kw p1
          have q2 := kw p2
          have q3 := kw p3
          clear kw p0 p1 p2 p3
          obtain ⟨x, hx⟩ : ∃ x, x = L[j] := ⟨_, rfl⟩
          rw [← hx] at q0 q1 q2 q3 i0 i1 i2 hcK hsK hsn hlen2
          clear hx
          obtain ⟨x1, x2, x3, x4⟩ := x
          dsimp only at q0 q1 q2 q3 i0 i1 i2 hcK hsK
          obtain ⟨S, hS⟩ : ∃ S, S = P ++ Sc.stepsBits (L.take j) := ⟨_, rfl⟩
          have hsn2 : P ++ Sc.stepsBits (L.take (j + 1)) = S ++ Sc.stepBits (x1, x2, x3, x4) := by rw [hsn, hS, List.append_assoc]
          rw [← hS] at ho hlen2
          have hlen : (Bts.asB S).length ≤ 1900000 := by rw [Bts.asB_len]; rw [List.length_append] at hlen2; omega
          have hx4 : x4.length ≤ 9223372036854775807 := by unfold maxLen at hmK; omega
          obtain ⟨w7, hw7⟩ : ∃ x, x = wr.alloc (.cells #[.int .i64 x1, .int .i64 x2, .int .i64 x3, .slice aK x4.length cK] 72) := ⟨_, rfl⟩
          have car := Car.start (obj := .cells #[.int .i64 x1, .int .i64 x2, .int .i64 x3, .slice aK x4.length cK] 72) ho hbw HB.out
          rw [← hw7] at car
          obtain ⟨s0, hs0⟩ : ∃ s, s = wr.heap.size := ⟨_, rfl⟩
          rw [← hs0] at car
          have HsK := Lib.hid hsK
          have Hsn2 := Lib.hid hsn2
          have Hlen2 := Lib.hid hlen2
          clear hsn hsn2 hlen2 hS hsK ho hbw Hob
          go_upto_region 17 with fail
          rw [← hw7]
          rw [← hs0]
          clear hw7 hs0 q0 q1 q2 q3
          have r00 := car.cell 0 (.int .i64 x1) rfl
          have r01 := car.cell 1 (.int .i64 x2) rfl
          have r02 := car.cell 2 (.int .i64 x3) rfl
          have r03 := car.cell 3 (.slice aK x4.length cK) rfl
          go_wp2_with fail
          refine (ref_Int x1 _ _ (by rfl) i0).mono ?_
          rintro e wpd ⟨vpd, rfl, hpd, hbpd⟩
          obtain ⟨apd, cpd, rfl, sld, carpd⟩ := car.call hbpd hpd
          have qd0 := carpd.cell 0 (.int .i64 x1) rfl
          have qd1 := carpd.cell 1 (.int .i64 x2) rfl
          have qd2 := carpd.cell 2 (.int .i64 x3) rfl
          have qd3 := carpd.cell 3 (.slice aK x4.length cK) rfl
          clear car hpd hbpd
          go_wp2_with (first | (refine wpList_app EU8 rfl rfl (by rfl) (by rfl) ti_bytes carpd.own rfl sld (app_max (by omega) (Nat.le_trans (int_asB i0) (by decide))) (app_bytes (by omega) (Nat.le_trans (int_asB i0) (by decide))) carpd.size ?_; intro vqd wqd hod hgd hvd hbd; have carqd := carpd.app hod hgd hvd hbd; have rd0 := carqd.cell 0 (.int .i64 x1) rfl; have rd1 := carqd.cell 1 (.int .i64 x2) rfl; have rd2 := carqd.cell 2 (.int .i64 x3) rfl; have rd3 := carqd.cell 3 (.slice aK x4.length cK) rfl; clear hod hgd hvd hbd carpd qd0 qd1 qd2 qd3))
          obtain ⟨Sd, hSd⟩ : ∃ S', S' = S ++ Bts.int x1 := ⟨_, rfl⟩
          rw [← Bts.asB_app, ← hSd] at carqd
          have hld : (Bts.asB Sd).length ≤ 1900200 := by rw [hSd, Bts.asB_app, List.length_append]; have := int_asB i0; omega
          have HSd := Lib.hid hSd
          clear hSd
          go_wp2_with fail
          refine (ref_Int x2 _ _ (by rfl) i1).mono ?_
          rintro e wpe ⟨vpe, rfl, hpe, hbpe⟩
          obtain ⟨ape, cpe, rfl, sle, carpe⟩ := carqd.call hbpe hpe
          have qe0 := carpe.cell 0 (.int .i64 x1) rfl
          have qe1 := carpe.cell 1 (.int .i64 x2) rfl
          have qe2 := carpe.cell 2 (.int .i64 x3) rfl
          have qe3 := carpe.cell 3 (.slice aK x4.length cK) rfl
          clear carqd hpe hbpe
          go_wp2_with (first | (refine wpList_app EU8 rfl rfl (by rfl) (by rfl) ti_bytes carpe.own rfl sle (app_max (by omega) (Nat.le_trans (int_asB i1) (by decide))) (app_bytes (by omega) (Nat.le_trans (int_asB i1) (by decide))) carpe.size ?_; intro vqe wqe hoe hge hve hbe; have carqe := carpe.app hoe hge hve hbe; have re0 := carqe.cell 0 (.int .i64 x1) rfl; have re1 := carqe.cell 1 (.int .i64 x2) rfl; have re2 := carqe.cell 2 (.int .i64 x3) rfl; have re3 := carqe.cell 3 (.slice aK x4.length cK) rfl; clear hoe hge hve hbe carpe qe0 qe1 qe2 qe3))
          obtain ⟨Se, hSe⟩ : ∃ S', S' = Sd ++ Bts.int x2 := ⟨_, rfl⟩
          rw [← Bts.asB_app, ← hSe] at carqe
          have hle : (Bts.asB Se).length ≤ 1900400 := by rw [hSe, Bts.asB_app, List.length_append]; have := int_asB i1; omega
          have HSe := Lib.hid hSe
          clear hSe
          go_wp2_with fail
          refine (ref_Int x3 _ _ (by rfl) i2).mono ?_
          rintro e wpf ⟨vpf, rfl, hpf, hbpf⟩
          obtain ⟨apf, cpf, rfl, slf, carpf⟩ := carqe.call hbpf hpf
          have qf0 := carpf.cell 0 (.int .i64 x1) rfl
          have qf1 := carpf.cell 1 (.int .i64 x2) rfl
          have qf2 := carpf.cell 2 (.int .i64 x3) rfl
          have qf3 := carpf.cell 3 (.slice aK x4.length cK) rfl
          clear carqe hpf hbpf
          go_wp2_with (first | (refine wpList_app EU8 rfl rfl (by rfl) (by rfl) ti_bytes carpf.own rfl slf (app_max (by omega) (Nat.le_trans (int_asB i2) (by decide))) (app_bytes (by omega) (Nat.le_trans (int_asB i2) (by decide))) carpf.size ?_; intro vqf wqf hof hgf hvf hbf; have carqf := carpf.app hof hgf hvf hbf; have rf0 := carqf.cell 0 (.int .i64 x1) rfl; have rf1 := carqf.cell 1 (.int .i64 x2) rfl; have rf2 := carqf.cell 2 (.int .i64 x3) rfl; have rf3 := carqf.cell 3 (.slice aK x4.length cK) rfl; clear hof hgf hvf hbf carpf qf0 qf1 qf2 qf3))
          obtain ⟨Sf, hSf⟩ : ∃ S', S' = Se ++ Bts.int x3 := ⟨_, rfl⟩
          rw [← Bts.asB_app, ← hSf] at carqf
          have hlf : (Bts.asB Sf).length ≤ 1900600 := by rw [hSf, Bts.asB_app, List.length_append]; have := int_asB i2; omega
          have HSf := Lib.hid hSf
          clear hSf
          go_wp2_with fail
          refine (ref_Num (BitVec.ofInt 64 x4.length) _ _ (by rfl)).mono ?_
          rintro e wpg ⟨vpg, rfl, hpg, hbpg⟩
          obtain ⟨apg, cpg, rfl, slg, carpg⟩ := carqf.call hbpg hpg
          have qg0 := carpg.cell 0 (.int .i64 x1) rfl
          have qg1 := carpg.cell 1 (.int .i64 x2) rfl
          have qg2 := carpg.cell 2 (.int .i64 x3) rfl
          have qg3 := carpg.cell 3 (.slice aK x4.length cK) rfl
          clear carqf hpg hbpg
          go_wp2_with (first | (refine wpList_app EU8 rfl rfl (by rfl) (by rfl) ti_bytes carpg.own rfl slg (app_max (by omega) (Nat.le_trans (num_asB (BitVec.ofInt 64 x4.length)) (by decide))) (app_bytes (by omega) (Nat.le_trans (num_asB (BitVec.ofInt 64 x4.length)) (by decide))) carpg.size ?_; intro vqg wqg hog hgg hvg hbg; have carqg := carpg.app hog hgg hvg hbg; have rg0 := carqg.cell 0 (.int .i64 x1) rfl; have rg1 := carqg.cell 1 (.int .i64 x2) rfl; have rg2 := carqg.cell 2 (.int .i64 x3) rfl; have rg3 := carqg.cell 3 (.slice aK x4.length cK) rfl; clear hog hgg hvg hbg carpg qg0 qg1 qg2 qg3))
          obtain ⟨Sg, hSg⟩ : ∃ S', S' = Sf ++ Bts.num (BitVec.ofInt 64 x4.length) := ⟨_, rfl⟩
          rw [← Bts.asB_app, ← hSg] at carqg
          have hlg : (Bts.asB Sg).length ≤ 1900800 := by rw [hSg, Bts.asB_app, List.length_append]; have := num_asB (BitVec.ofInt 64 x4.length); omega
          have HSg := Lib.hid hSg
          clear hSg
          have hst : S ++ Sc.stepBits (x1, x2, x3, x4) = Sg ++ Sc.keepsBits x4 := by
            rw [HSg.out, HSf.out, HSe.out, HSd.out]; simp only [Sc.stepBits, List.append_assoc]
          have hlen4 := Hlen2.out
          rw [hst, List.length_append] at hlen4
          have Hst := Lib.hid hst
          have Hlen4 := Lib.hid hlen4
          clear hst hlen4 hlen hld hle hlf hlg HSg HSf HSe HSd
          go_upto_region 22 with fail
          have Hcg := Lib.hid carqg
          clear carqg rg0 rg1 rg2 rg3
          go_loopw [7, 76] (fun t i wr => ∃ (q : Nat), q ≤ x4.length ∧ i = .int .i64 q ∧ RowKit.Hid (Car B w s0 (.cells #[.int .i64 x1, .int .i64 x2, .int .i64 x3, .slice aK x4.length cK] 72 (0, 0)) wr t (Bts.asB (Sg ++ Sc.keepsBits (x4.take q))))) (fun _ i _ => x4.length - (intOf i).toNat)
          case atStart => exact ⟨0, Nat.zero_le _, rfl, by simpa [Sc.keepsBits] using Hcg⟩
          case round =>
            obtain ⟨q, hq, rfl, Hca⟩ := hrel
            clear Hcg
            have car := Hca.out
            by_cases hqt : q < x4.length
            · have hqi : (q : Int) < (x4.length : Int) := by omega
              have hlen5 : (Bts.asB (Sg ++ Sc.keepsBits (x4.take q))).length ≤ 1900000 := by
                have h1 := Sc.flat_len_le Bts.int x4 q
                have h3 := Hlen4.out
                unfold Sc.keepsBits at h3 ⊢
                rw [Bts.asB_len, List.length_append]; omega
              have hks := Sc.keepsBits_snoc x4 q hqt
              obtain ⟨b2, o2, rfl, _, y0, yi⟩ := sl_i HsK.out q hqt
              have y1 := cell_thru y0 (by rw [HB.out]; exact car.below)
              obtain ⟨y, hy⟩ : ∃ y, y = x4[q] := ⟨_, rfl⟩
              rw [← hy] at y1 yi hks
              obtain ⟨T, hT⟩ : ∃ T, T = Sg ++ Sc.keepsBits (x4.take q) := ⟨_, rfl⟩
              have hks2 : Sg ++ Sc.keepsBits (x4.take (q + 1)) = T ++ Bts.int y := by rw [hks, hT, List.append_assoc]
              rw [← hT] at car hlen5
              have Hks := Lib.hid hks2
              clear hks hks2 hT hy y0 Hca
              go_wp2_with fail
              refine (ref_Int y _ _ (by rfl) yi).mono ?_
              rintro e wph ⟨vph, rfl, hph, hbph⟩
              obtain ⟨aph, cph, rfl, slh, carph⟩ := car.call hbph hph
              clear car hph hbph
              go_wp2_with (first | (refine wpList_app EU8 rfl rfl (by rfl) (by rfl) ti_bytes carph.own rfl slh (app_max (by omega) (Nat.le_trans (int_asB yi) (by decide))) (app_bytes (by omega) (Nat.le_trans (int_asB yi) (by decide))) carph.size ?_; intro vqh wqh hoh hgh hvh hbh; have carqh := carph.app hoh hgh hvh hbh; clear hoh hgh hvh hbh carph))
              obtain ⟨Sh, hSh⟩ : ∃ S', S' = T ++ Bts.int y := ⟨_, rfl⟩
              rw [← Bts.asB_app, ← hSh] at carqh
              have hlh : (Bts.asB Sh).length ≤ 1900800 := by rw [hSh, Bts.asB_app, List.length_append]; have := int_asB yi; omega
              have HSh := Lib.hid hSh
              clear hSh
              go_wp2_with fail
              go_roundw
              case rel =>
                refine ⟨q + 1, by omega, by go_num, Lib.hid ?_⟩
                rw [Hks.out, ← HSh.out]; exact carqh
              case measure => simp [intOf]; omega
            · have hqi : ¬ ((q : Int) < (x4.length : Int)) := by omega
              have htk : x4.take q = x4 := List.take_of_length_le (by omega)
              rw [htk, ← Hst.out, ← Hsn2.out] at car
              have Hcb := Lib.hid (And.intro car.own car.below)
              clear htk car Hca
              go_wp2_with fail
              go_roundw
              case rel => exact ⟨j + 1, by omega, by go_num, Hcb⟩
              case measure => simp [intOf]; omega
        · have hji : ¬ ((j : Int) < (L.length : Int)) := by omega
          have htk : L.take j = L := List.take_of_length_le (by omega)
          rw [htk, ← Hall.out] at ho
          have hT := HT2.out
          obtain ⟨X, hX⟩ : ∃ X, X = Sc.allBits (c, L) := ⟨_, rfl⟩
          rw [← hX] at ho hT
          have HX := Lib.hid hX
          clear htk Hob hX
          obtain ⟨aX, cX, rfl, hcX, hmX, hrX, hoX⟩ := ho.shape X.length (by rw [Bts.asB_len])
          clear ho hoX
          go_wp2_with fail
          refine (ref_Bytes aX X.length cX X _ _ (by rfl) hrX (by omega)).mono ?_
          rintro e w8 ⟨v8, rfl, ho8, hb8⟩
          have hBr : B ≤ wr.heap.size := by have := hbw.size; rw [HB.out] at this; exact this
          go_wp2_with fail
          refine bodyPost_ret (v := .tuple #[v8, .int .i64 0]) (by simp [results, Tryd.results11, go_sem]) rfl ?_
          exact ⟨_, rfl, by rw [Ho.out, ← HX.out]; exact ho8.base hBr, hbw.trans (hb8.mono hBr)⟩
end Go.Proofs.YtdpopdgeipgheaaDoor


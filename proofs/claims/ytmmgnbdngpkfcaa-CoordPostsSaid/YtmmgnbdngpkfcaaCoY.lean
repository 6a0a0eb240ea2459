
/-
  An answer's bytes: read.
-/
import Derived.Test.YtmmgnbdngpkfcaaCoV
namespace Go.Proofs.Ytmmgnbdngpkfcaa
open Go.RowKit
set_option linter.unusedVariables false

theorem Own.onlyI {te : TypeId} {base : Nat} {w w' : World} {v : Value} {l : List Int} {S : Nat → Prop} (h : Own EInt te base w v l) (ho : Only S w w') (hS : ∀ k, S k → k < base) : Own EInt te base w' v l := by
  rcases h with h | ⟨g, cap, cur, hv, hg, hh, h1, h2, h3, h4⟩
  · exact .inl h
  · refine .inr ⟨g, cap, cur, hv, hg, by rw [ho.block g (Array.getElem?_eq_some_iff.1 hh).1 (fun hs => by have := hS g hs; omega)]; exact hh, h1, h2, h3, fun k y hk => ?_⟩
    obtain ⟨cs, hr, hc⟩ := h4 k y hk
    exact ⟨cs, hr, hc⟩
theorem ans_end (a : Co.An) : ∃ z, Bts.bitsOf (Bts.pack (ansB a)) = ansB a ++ z ∧ Bts.endS (.inl z) = 0 := by
  refine ⟨_, Bts.bitsOf_pack _, ?_⟩
  show (if 7 < (Bts.zeros (8 * (((ansB a).length + 7) / 8) - (ansB a).length)).length ∨ (Bts.zeros (8 * (((ansB a).length + 7) / 8) - (ansB a).length)).any id = true then (12 : Int) else 0) = 0
  rw [Bts.zeros_len, if_neg]
  rintro (h | h)
  · omega
  · simp [Bts.zeros] at h
theorem size_ans : (Try.prog.info? 41).map (·.size) = some 8 := by kernel_rfl
set_option maxRecDepth 4096 in
set_option maxHeartbeats 6400000 in
theorem co_ReadAnswer (a : Co.An) (sa : Option Addr) (n c : Nat) (w : World) (hr : RB w sa n (Bts.pack (ansB a))) (ha : AnR a) (r7 : ∀ x ∈ a.vals, Bts.i64 x) :
    Calls Try.prog 87 #[.slice sa n c] w fun e w' => ∃ v, e = .returned (.tuple #[.agg (ansRow a v), .int .i64 0]) ∧ Own EInt 3 w.heap.size w' v a.vals ∧ Below w.heap.size w w' := by
  obtain ⟨r1, r2, r3, r4, r5, r6⟩ := ha
  obtain ⟨z, hz, hze⟩ := ans_end a
  have hbl : (Bts.pack (ansB a)).length ≤ 1099511627776 := by
    have h1 := coint_len a.err
    have h2 := coint_len a.at_
    have h3 := coint_len a.by_
    have h4 := coint_len a.home
    have h5 := endB_len a.e
    have h6 := conum_len (BitVec.ofNat 64 a.vals.length)
    have h7 := valsB_len a.vals
    rw [Bts.pack_len]
    unfold ansB
    simp only [List.length_append]
    omega
  have hnl : n ≤ 1099511627776 := by rw [hr.1]; exact hbl
  obtain ⟨b, hb⟩ : ∃ b, b = Bts.pack (ansB a) := ⟨_, rfl⟩
  rw [← hb] at hr hbl hz
  clear hb
  obtain ⟨E, hE⟩ : ∃ E, E = w.heap.size := ⟨_, rfl⟩
  obtain ⟨w1, hw1⟩ : ∃ x, x = w.alloc (.cells #[.int .i64 0, .slice none 0 0, .int .i64 0, .int .i64 0, .int .i64 0, .int .i64 0, .bool false, .int .i64 0] 41) := ⟨_, rfl⟩
  have hh1 : w1.heap[E]? = some (.cells #[.int .i64 0, .slice none 0 0, .int .i64 0, .int .i64 0, .int .i64 0, .int .i64 0, .bool false, .int .i64 0] 41 (0, 0)) := by rw [hw1, hE]; exact heap_alloc_new w _
  have hb1 : Below w.heap.size w w1 := by rw [hw1]; exact alloc_below _ _
  have hz1 : w1.heap.size = E + 1 := by rw [hw1, hE]; simp
  have hr1 : RB w1 sa n b := ⟨hr.1, hr.2.below (by decide) hb1⟩
  have Hh1 := Lib.hid hh1
  have Hb1 := Lib.hid hb1
  have Hw1 := Lib.hid hw1.symm
  have HE := Lib.hid hE
  have Hz1 := Lib.hid hz1
  have Hz := Lib.hid hz
  have Hze := Lib.hid hze
  clear hh1 hb1 hw1 hE hz1 hr hz hze
  go_enter Try.func87, Try.ntmps87
  go_upto_region 1 with fail
  rw [Hw1.out, ← HE.out]
  clear Hw1
  go_wp2_with fail
  refine (bits_ReadS (E + 1) sa n c b w1 Hz1.out hr1 hnl).mono ?_
  rintro x w2 ⟨g, rfl, hg, hr2, hb2⟩
  rw [Hz.out] at hr2
  replace hr2 : RdL _ w2 g b _ := hr2
  unfold ansB at hr2
  simp only [List.append_assoc] at hr2
  obtain ⟨T, hT⟩ : ∃ T, T = Bts.int a.at_ ++ (Bts.int a.by_ ++ (Bts.int a.home ++ (endB a.e ++ z))) := ⟨_, rfl⟩
  rw [← hT] at hr2
  have HT := Lib.hid hT
  clear hT hr1
  go_wp2_with fail
  refine (rl_Int g b a.err _ _ hr2 hbl r1).mono ?_
  rintro x w3 ⟨rfl, hr3, o3⟩
  obtain ⟨q, hq⟩ : ∃ q, q = w3.heap.size := ⟨_, rfl⟩
  obtain ⟨w4, hw4⟩ : ∃ x, x = w3.alloc (.cells #[.int .i64 a.err, .slice none 0 0, .int .i64 0, .int .i64 0, .int .i64 0, .int .i64 0, .bool false, .int .i64 0] 41) := ⟨_, rfl⟩
  have hh4 : w4.heap[q]? = some (.cells #[.int .i64 a.err, .slice none 0 0, .int .i64 0, .int .i64 0, .int .i64 0, .int .i64 0, .bool false, .int .i64 0] 41 (0, 0)) := by rw [hw4, hq]; exact heap_alloc_new w3 _
  have hb4 : Below w3.heap.size w3 w4 := by rw [hw4]; exact alloc_below _ _
  have hz4 : w4.heap.size = q + 1 := by rw [hw4, hq]; simp
  have hgq : g < q := by have := RdS.lt hr3; omega
  have hr4 : RdL _ w4 g b _ := RdS.keep hr3 hb4
  have Hw4 := Lib.hid hw4.symm
  have Hq := Lib.hid hq
  have b13 : Below (E + 1) w1 w3 := hb2.trans (o3.below (by have := hb2.size; rw [Hz1.out] at this; exact this) fun k hk => by omega)
  have b14 : Below (E + 1) w1 w4 := b13.trans (hb4.mono (by omega))
  have Hb14 := Lib.hid b14
  have Hh4 := Lib.hid hh4
  have Hz4 := Lib.hid hz4
  clear hr2 hw4 hq hh4 hb4 hr3 o3 hb2 b13 b14 hz4
  go_upto_region 3 with fail
  rw [Hw4.out, ← Hq.out]
  clear Hw4
  go_wp2_with fail
  refine (rl_Num g b (BitVec.ofNat 64 a.vals.length) _ _ hr4 hbl).mono ?_
  rintro x w5 ⟨rfl, hr5, o5⟩
  have hh5 := (o5.block q (Array.getElem?_eq_some_iff.1 Hh4.out).1 (by omega)).trans Hh4.out
  have b15 : Below (E + 1) w1 w5 := Hb14.out.trans (o5.below (by have := Hz4.out; omega) fun k hk => by omega)
  obtain ⟨M, hM⟩ : ∃ M, M = a.vals.length := ⟨_, rfl⟩
  rw [← hM]
  have HM := Lib.hid hM
  have hM20 : M ≤ 20 := by omega
  have hz5 : q + 1 ≤ w5.heap.size := by have := o5.size; have := Hz4.out; omega
  have hB5 := Only.refl (fun k => k = g ∨ k = q) w5
  have HB5 := Lib.hid hB5
  have Hb15 := Lib.hid b15
  clear hM hr4 o5 b15 hB5
  go_wp2_with fail
  go_loopw [6] (fun i wr => ∃ (k : Nat) (aK : Option Addr) (cK : Nat) (xs : List Int), k ≤ M ∧ xs = a.vals.take k ∧ xs.length = k ∧ i = .int .u64 (bv (BitVec.ofNat 64 (M - k))) ∧ RdL (fun k => E + 1 ≤ k ∧ k < g) wr g b (valsB (a.vals.drop k) ++ T) ∧ Own EInt 3 w5.heap.size wr (.slice aK k cK) xs ∧
    wr.heap[q]? = some (.cells #[.int .i64 a.err, .slice aK k cK, .int .i64 0, .int .i64 0, .int .i64 0, .int .i64 0, .bool false, .int .i64 0] 41 (0, 0)) ∧ RowKit.Hid (Only (fun k => k = g ∨ k = q) w5 wr)) (fun i _ => (intOf i).toNat)
  case atStart => exact ⟨0, none, 0, [], Nat.zero_le _, rfl, rfl, rfl, hr5, Own.nil _ _ _ _, hh5, HB5⟩
  case round =>
    obtain ⟨k, aK, cK, xs, hk, hxs, hxl, rfl, hr, hok, hh, HOg⟩ := hrel
    clear hr5 hh5 HB5
    have hszg : w5.heap.size ≤ wr.heap.size := HOg.out.size
    have hbq : bv (BitVec.ofNat 64 (M - k)) = ((M - k : Nat) : Int) := by unfold bv; rw [BitVec.toNat_ofNat]; omega
    have Hbq := Lib.hid hbq
    have Hxl := Lib.hid hxl
    have Hxs := Lib.hid hxs
    have Hh := Lib.hid hh
    have Hok := Lib.hid hok
    have Hlc := Lib.hid (hok.shape k hxl.symm)
    clear hbq hxl hh hok hxs
    by_cases hlt : k < M
    · have hpos : 0 < bv (BitVec.ofNat 64 (M - k)) := by rw [Hbq.out]; omega
      have hkv : k < a.vals.length := by rw [← HM.out]; exact hlt
      go_wp2_with fail
      refine (bits_ErrS g b _ _ hr).mono ?_
      rintro e wa' ⟨rfl, rfl⟩
      rw [show Bts.errS (.inl (valsB (a.vals.drop k) ++ T)) = 0 by rfl]
      go_upto_region 6 with fail
      have hrd' : RdL (fun k => E + 1 ≤ k ∧ k < g) wr.drew g b (Bts.int a.vals[k] ++ (valsB (a.vals.drop (k + 1)) ++ T)) := by
        have h := RdS.keep hr (Below.refl _ _).drew
        rw [List.drop_eq_getElem_cons hkv] at h
        have e : valsB (a.vals[k] :: a.vals.drop (k + 1)) ++ T = Bts.int a.vals[k] ++ (valsB (a.vals.drop (k + 1)) ++ T) := List.append_assoc _ _ _
        rw [e] at h
        exact h
      have hvr : Bts.i64 a.vals[k] := r7 _ (List.getElem_mem hkv)
      have htk : a.vals.take (k + 1) = a.vals.take k ++ [a.vals[k]] := (List.take_append_getElem hkv).symm
      obtain ⟨v, hv⟩ : ∃ z, z = a.vals[k] := ⟨_, rfl⟩
      rw [← hv] at hrd' hvr htk
      have hcall := rl_Int g b v _ wr.drew hrd' hbl hvr
      have Hcall := Lib.hid hcall
      have Htk := Lib.hid htk
      have c3 : wr.cell? ⟨q, 1, none⟩ = some (.slice aK k cK) := by
        have := Hh.out
        simp [World.cell?, this]
      have c3d : wr.drew.cell? ⟨q, 1, none⟩ = some (.slice aK k cK) := c3
      have hnextq : (bv (BitVec.ofNat 64 (M - k) - 1#64)) = bv (BitVec.ofNat 64 (M - (k + 1))) := by
        congr 1
        apply BitVec.eq_of_toNat_eq
        rw [BitVec.toNat_sub, BitVec.toNat_ofNat, BitVec.toNat_ofNat]
        simp only [BitVec.toNat_ofNat]
        omega
      have hbq' : bv (BitVec.ofNat 64 (M - (k + 1))) = ((M - (k + 1) : Nat) : Int) := by unfold bv; rw [BitVec.toNat_ofNat]; omega
      have Hnextq := Lib.hid hnextq
      have Hbq' := Lib.hid hbq'
      have hitem : ∀ (w10 : World), Only (· = g) wr.drew w10 →
          (Own EInt 3 w5.heap.size (w10.alloc (.cells #[.int .i64 v] 3)) (.slice aK k cK) xs ∧ Sl EInt (fun b => some b ≠ (Value.slice aK k cK).ownBlock) (w10.alloc (.cells #[.int .i64 v] 3)) (some ⟨w10.heap.size, 0, none⟩) [v]) ∧
          w10.heap[q]? = some (.cells #[.int .i64 a.err, .slice aK k cK, .int .i64 0, .int .i64 0, .int .i64 0, .int .i64 0, .bool false, .int .i64 0] 41 (0, 0)) ∧ wr.heap.size ≤ w10.heap.size := fun w10 hon => by
        have hok := Hok.out
        have h1 : Own EInt 3 w5.heap.size w10 (.slice aK k cK) xs := (hok.below (Below.refl _ _).drew : Own EInt 3 w5.heap.size wr.drew (.slice aK k cK) xs).onlyI hon fun j hj => by omega
        have hsz : wr.heap.size ≤ w10.heap.size := hon.size
        refine ⟨⟨h1.below ((Below.refl _ _).alloc (Nat.le_refl _) _), sl_one (heap_alloc_new w10 _) ⟨rfl, hvr⟩ h1.fresh⟩, ?_, hsz⟩
        rw [hon.block q (cell_lt c3d) (by omega)]; exact Hh.out
      have Hitem := Lib.hid hitem
      have hb1 : xs.length + [v].length ≤ maxLen := by rw [Hxl.out]; unfold maxLen; simp; omega
      have hb2 : (xs.length + [v].length) * 8 ≤ 140737488355328 := by rw [Hxl.out]; simp; omega
      have Hb1' := Lib.hid hb1
      have Hb2' := Lib.hid hb2
      have hsf1 : q < w5.heap.size := by omega
      clear hcall hv hvr htk hnextq hbq' hitem hb1 hb2 hrd' hr
      go_region_law (first
        | (go_simp; go_at_call 127; refine (Hcall.out).mono ?_; rintro e w10 ⟨rfl, hr10, hon10⟩; obtain ⟨hit, hM10, hsz10⟩ := Hitem.out w10 hon10; have k10 : w10.cell? ⟨q, 1, none⟩ = some (.slice aK k cK) := by { simp [World.cell?, hM10] }; have k10a : (w10.alloc (.cells #[.int .i64 v] 3)).cell? ⟨q, 1, none⟩ = some (.slice aK k cK) := cell_thru k10 ((Below.refl _ _).alloc (Nat.le_refl _) _); have HM10 := Lib.hid hM10; have Hit := Lib.hid hit; have Hsz10 := Lib.hid hsz10; clear hM10 hit hsz10)
        | ((rw [if_pos (by simp [Region.wanted])]); (refine step_app (l := xs) (l2 := [v]) (base := w5.heap.size) EInt (by rfl) (by rfl) (by rfl) ti_cints Hit.out.1 rfl Hit.out.2 Hb1'.out Hb2'.out (by have := Hsz10.out; simp; omega) ?_; intro v11 w11 ho11 hg11 hv11 hb11; obtain ⟨a11, c11, rfl, hc11, hm11, hr11, ho11'⟩ := ho11.shape (k + 1) (by simp [Hxl.out]); have k11 : w11.cell? ⟨q, 1, none⟩ = some (.slice aK k cK) := (hb11.cell (p := ⟨q, 1, none⟩) hsf1).trans k10a; have kf11 : w11.frozen? ⟨q, 1, none⟩ = false := by { rw [hb11.frozen (p := ⟨q, 1, none⟩) hsf1, Below.frozen (B := w10.heap.size) ((Below.refl _ _).alloc (Nat.le_refl _) _) (p := ⟨q, 1, none⟩) (cell_lt k10)]; simp [World.frozen?, HM10.out] })))
      all_goals
        have hMf : (w11.setCell ⟨q, 1, none⟩ (.slice a11 (k + 1) c11)).heap[q]? = some (.cells #[.int .i64 a.err, .slice a11 (k + 1) c11, .int .i64 0, .int .i64 0, .int .i64 0, .int .i64 0, .bool false, .int .i64 0] 41 (0, 0)) := by
          have e : w11.heap[q]? = some (.cells #[.int .i64 a.err, .slice aK k cK, .int .i64 0, .int .i64 0, .int .i64 0, .int .i64 0, .bool false, .int .i64 0] 41 (0, 0)) := by
            rw [hb11.block q hsf1, Below.heap_alloc _ _ _ (cell_lt k10)]; exact HM10.out
          have := heap_set e 1 (.slice a11 (k + 1) c11)
          simpa using this
        have HMf := Lib.hid hMf
        have hOb : Only (fun p => w5.heap.size ≤ p ∨ p = q) w10 (w11.setCell ⟨q, 1, none⟩ (.slice a11 (k + 1) c11)) := by
          have h1 : Only (fun p => w5.heap.size ≤ p ∨ p = q) w10 (w10.alloc (.cells #[.int .i64 v] 3)) := Below.only ((Below.refl _ _).alloc (Nat.le_refl _) _)
          have h2 : Only (fun p => w5.heap.size ≤ p ∨ p = q) (w10.alloc (.cells #[.int .i64 v] 3)) w11 := ⟨hb11.os, hb11.tape, hb11.output, hb11.size, fun p hp hn => hb11.block p (by omega)⟩
          exact (h1.trans h2 fun _ _ h => h).setCell (p := ⟨q, 1, none⟩) (.inl (.inr rfl)) _
        have HOb := Lib.hid hOb
        have hon : Only (· = g) wr w10 := ⟨hon10.os, hon10.tape, hon10.output, hon10.size, hon10.block⟩
        have Hon := Lib.hid hon
        have hoF : Own EInt 3 w5.heap.size (w11.setCell ⟨q, 1, none⟩ (.slice a11 (k + 1) c11)) (.slice a11 (k + 1) c11) (xs ++ [v]) :=
          ho11'.onlyI (S := (· = q)) (Only.setCell (S := (· = q)) (Only.refl _ _) (p := ⟨q, 1, none⟩) (.inl rfl) _) (fun j hj => by omega)
        have HoF := Lib.hid hoF
        have Hr10 := Lib.hid hr10
        clear hMf hOb hon hoF ho11 hg11 hv11 hr11 hr10
        go_wp2_with fail
        go_roundw
        case rel =>
          refine ⟨k + 1, a11, c11, xs ++ [v], by omega, by rw [Htk.out, ← Hxs.out], by simp [Hxl.out], by rw [Hnextq.out], Hr10.out.only HOb.out (by omega) (fun p hp => by omega), HoF.out, HMf.out, Lib.hid ?_⟩
          have h1 := HOg.out.trans (Hon.out.mono (T := fun p => p = g ∨ p = q) fun _ h => .inl h) fun _ _ h => h
          exact h1.trans HOb.out fun p hp h => by rcases h with h | h; omega; exact .inr h
        case measure =>
          rw [Hnextq.out]
          show (bv (BitVec.ofNat 64 (M - (k + 1)))).toNat < (bv (BitVec.ofNat 64 (M - k))).toNat
          rw [Hbq'.out, Hbq.out]
          omega
    · have hkM : k = M := by omega
      have hneg : ¬ 0 < bv (BitVec.ofNat 64 (M - k)) := by rw [Hbq.out]; omega
      rw [hkM, HM.out, List.drop_length] at hr
      replace hr : RdL _ wr g b T := hr
      rw [HT.out] at hr
      have hhr := Hh.out
      have y2 : wr.cell? ⟨q, 2, none⟩ = some (.int .i64 0) := by simp [World.cell?, hhr]
      have HkM := Lib.hid hkM
      clear hhr hkM
      go_upto_region 7 with fail
      go_wp2_with fail
      refine (rl_Int g b a.at_ _ _ hr hbl r2).mono ?_
      rintro x w6 ⟨rfl, hr6, o6⟩
      go_wp2_with fail
      refine (rl_Int g b a.by_ _ _ hr6 hbl r3).mono ?_
      rintro x w7 ⟨rfl, hr7, o7⟩
      go_wp2_with fail
      refine (rl_Int g b a.home _ _ hr7 hbl r4).mono ?_
      rintro x w8 ⟨rfl, hr8, o8⟩
      go_wp2_with fail
      refine (co_readEnd g b a.e _ _ hr8 hbl r5 (fun j hj => by have := RdS.lt hr8; omega)).mono ?_
      rintro x w9 ⟨rfl, hr9, o9⟩
      have o59 : Only (fun j => j = g ∨ j = q) w5 w9 := ((((HOg.out.trans (o6.mono (T := fun j => j = g ∨ j = q) fun _ h => .inl h) fun _ _ h => h).trans (o7.mono (T := fun j => j = g ∨ j = q) fun _ h => .inl h) fun _ _ h => h).trans (o8.mono (T := fun j => j = g ∨ j = q) fun _ h => .inl h) fun _ _ h => h).trans (o9.mono (T := fun j => j = g ∨ j = q) fun _ h => .inl h) fun _ _ h => h)
      have ow9 : Only (· = g) wr w9 := (((o6.trans o7 fun _ _ h => h).trans o8 fun _ _ h => h).trans o9 fun _ _ h => h)
      have hh9 := (ow9.block q (Array.getElem?_eq_some_iff.1 Hh.out).1 (by omega)).trans Hh.out
      have hok9 : Own EInt 3 w5.heap.size w9 (.slice aK k cK) xs := Hok.out.onlyI ow9 fun j hj => by omega
      have q0 : w9.cell? ⟨q, 0, none⟩ = some (.int .i64 a.err) := by simp [World.cell?, hh9]
      have q1 : w9.cell? ⟨q, 1, none⟩ = some (.slice aK k cK) := by simp [World.cell?, hh9]
      have q2 : w9.cell? ⟨q, 2, none⟩ = some (.int .i64 0) := by simp [World.cell?, hh9]
      have q3 : w9.cell? ⟨q, 3, none⟩ = some (.int .i64 0) := by simp [World.cell?, hh9]
      have q4 : w9.cell? ⟨q, 4, none⟩ = some (.int .i64 0) := by simp [World.cell?, hh9]
      have q5 : w9.cell? ⟨q, 5, none⟩ = some (.int .i64 0) := by simp [World.cell?, hh9]
      have q6 : w9.cell? ⟨q, 6, none⟩ = some (.bool false) := by simp [World.cell?, hh9]
      have q7 : w9.cell? ⟨q, 7, none⟩ = some (.int .i64 0) := by simp [World.cell?, hh9]
      have qf : ∀ o, w9.frozen? ⟨q, o, none⟩ = false := fun o => by simp [World.frozen?, hh9]
      have Hh9 := Lib.hid hh9
      have Hok9 := Lib.hid hok9
      have Ho59 := Lib.hid o59
      have Hr9 := Lib.hid hr9
      clear hh9 hok9 o59 hr9 hr hr6 hr7 hr8 o6 o7 o8 o9 ow9 y2
      unfold enV
      go_upto_region 8 with fail
      obtain ⟨wa, hwa⟩ : ∃ x, x = ((((((w9.setCell ⟨q, 2, none⟩ (.int .i64 a.at_)).setCell ⟨q, 3, none⟩ (.int .i64 a.by_)).setCell ⟨q, 4, none⟩ (.int .i64 a.home)).setCell ⟨q, 5, none⟩ (.int .i64 a.e.t)).setCell ⟨q, 6, none⟩ (.bool a.e.c)).setCell ⟨q, 7, none⟩ (.int .i64 a.e.a)) := ⟨_, rfl⟩
      have oa : Only (· = q) w9 wa := by
        rw [hwa]
        exact ((((((Only.refl (· = q) w9).setCell (p := ⟨q, 2, none⟩) (.inl rfl) _).setCell (p := ⟨q, 3, none⟩) (.inl rfl) _).setCell (p := ⟨q, 4, none⟩) (.inl rfl) _).setCell (p := ⟨q, 5, none⟩) (.inl rfl) _).setCell (p := ⟨q, 6, none⟩) (.inl rfl) _).setCell (p := ⟨q, 7, none⟩) (.inl rfl) _
      have hha : wa.heap[q]? = some (.cells (ansRow a (.slice aK k cK)) 41 (0, 0)) := by
        rw [hwa]
        exact heap_set (heap_set (heap_set (heap_set (heap_set (heap_set Hh9.out 2 (.int .i64 a.at_)) 3 (.int .i64 a.by_)) 4 (.int .i64 a.home)) 5 (.int .i64 a.e.t)) 6 (.bool a.e.c)) 7 (.int .i64 a.e.a)
      rw [← hwa]
      have hra : RdL (fun k => E + 1 ≤ k ∧ k < g) wa g b z := RdS.only Hr9.out oa (by omega) (fun j hj => by omega)
      have hoka : Own EInt 3 w5.heap.size wa (.slice aK k cK) xs := Hok9.out.onlyI oa fun j hj => by omega
      have Hha := Lib.hid hha
      have Hoka := Lib.hid hoka
      have hoa : Only (fun j => j = g ∨ j = q) w5 wa := Ho59.out.trans (oa.mono (T := fun j => j = g ∨ j = q) fun _ h => .inr h) fun _ _ h => h
      have Hoa := Lib.hid hoa
      clear hwa oa hha hoka hoa q0 q1 q2 q3 q4 q5 q6 q7 qf
      go_wp2_with fail
      refine (bits_EndS g b _ wa hra hbl).mono ?_
      rintro x wb ⟨rfl, hbb⟩
      rw [Hze.out]
      have hhb := (hbb.block q (Array.getElem?_eq_some_iff.1 Hha.out).1).trans Hha.out
      have hokb := Hoka.out.below hbb
      have hbE : wb.heap[E]? = some (.cells #[.int .i64 0, .slice none 0 0, .int .i64 0, .int .i64 0, .int .i64 0, .int .i64 0, .bool false, .int .i64 0] 41 (0, 0)) := by
        have e1 := (Hb15.out.block E (by omega)).trans Hh1.out
        have e2 := (Hoa.out.block E (by omega) (by omega)).trans e1
        exact (hbb.block E (by have := Hoa.out.size; omega)).trans e2
      have hbtot : Below E w wb := by
        have h1 : Below E w w1 := by rw [HE.out]; exact Hb1.out
        have h2 : Below E w1 w5 := Hb15.out.mono (by omega)
        have h3 : Below E w5 wa := Hoa.out.below (by omega) fun j hj => by omega
        exact ((h1.trans h2).trans h3).trans (hbb.mono (by have := Hoa.out.size; omega))
      have Hhb := Lib.hid hhb
      have Hokb := Lib.hid hokb
      have HbE := Lib.hid hbE
      have Hbtot := Lib.hid hbtot
      have hs8 : (Try.prog.info? 41).map (·.size) = some (ansRow a (.slice aK k cK)).size := size_ans
      clear hbtot hbE hokb hhb
      have hall : (ansRow a (.slice aK k cK)).all (·.oneCell') = true := by simp [ansRow, Value.oneCell']
      go_wp2_with (first
        | (refine wpList_loadRow rfl _ _ rfl q rfl _ _ _ _ Hhb.out Try.underlying41 rfl hs8 ?_)
        | (refine wpList_storeRow rfl _ _ _ rfl E rfl _ _ rfl _ HbE.out hs8 rfl hall ?_))
      have kE := setRow_at (cs := ansRow a (.slice aK k cK)) HbE.out
      refine bodyPost_ret (v := .tuple #[.agg (ansRow a (.slice aK k cK)), .int .i64 0]) (results_cell2 Try.results87 _ _ E 41 _ (0, 0) _ rfl kE Try.underlying41 rfl hs8) rfl ?_
      have hEb : E ≤ wb.heap.size := by have := hbb.size; have := Hoa.out.size; omega
      refine ⟨_, rfl, ?_, ?_⟩
      · have h1 : xs = a.vals := by rw [Hxs.out, HkM.out, HM.out, List.take_length]
        rw [← h1, ← HE.out]
        exact (Hokb.out.onlyI (setRow_only wb E _) fun j hj => by omega).base (by omega)
      · rw [← HE.out]
        exact Hbtot.out.trans (setRow_below _ hEb (Nat.le_refl _))
end Go.Proofs.Ytmmgnbdngpkfcaa

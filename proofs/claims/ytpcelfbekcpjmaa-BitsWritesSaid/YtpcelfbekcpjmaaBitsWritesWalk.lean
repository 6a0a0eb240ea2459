/-
  The walk of the law 'BitsWrites'.
-/
import Derived.Test.YtpcelfbekcpjmaaBtsRefText
import Derived.Test.YtpcelfbekcpjmaaBitsSizesWalk
import Derived.Deep.CutBlock
namespace Go.Proofs.Ytpcelfbekcpjmaa
open Go.RowKit
set_option linter.unusedVariables false

/-- a thing of a slice of things, read anew in whatever world -/
theorem sl_item_rep {ok : Nat → Prop} {w : World} {a : Option Addr} {ts : List BItem} (h : Sl EItem ok w a ts) (k : Nat) (hk : k < ts.length) (w' : World) :
    EItem.rep (fun _ => True) w' [.int .i64 ts[k].1, .int .u64 (bv ts[k].2.1), .int .i64 ts[k].2.2.1, .int .i64 ts[k].2.2.2] ts[k] := by
  obtain ⟨b, o, rfl, _, cs, hr, hc⟩ := h k ts[k] (List.getElem?_eq_getElem hk)
  have hcs := (item_rep hr).1
  rw [← hcs]
  exact hr

set_option maxRecDepth 4096 in
set_option maxHeartbeats 3200000 in
theorem law_BitsWrites (a : Option Addr) (c : Nat) (ts : List BItem) (w : World) (hs : Sl EItem (fun _ => True) w a ts) (hc : ts.length ≤ c) (hcm : c ≤ maxLen) :
    Calls Try.prog 5 #[.slice a ts.length c] w fun e w' => e = .returned (.bool true) ∧ Below w.heap.size w w' := by
  go_enter Try.func5, Try.ntmps5
  go_wp2_with fail
  refine (law1_wrote _).mono ?_
  rintro e w1 ⟨rfl, hbw1⟩
  by_cases h1 : 40 < ts.length
  · have h1' : decide (40 < (ts.length : Int)) = true := by simp; omega
    go_wp2
    go_ret
    exact ⟨rfl, hbw1⟩
  have h1' : decide (40 < (ts.length : Int)) = false := by simp; omega
  have hs1 := hs.below (by decide) hbw1
  obtain ⟨w2, hw2⟩ : ∃ x, x = w1.alloc (.cells #[.slice none 0 0, .int .i64 0] 27) := ⟨_, rfl⟩
  have hb2 : Below w1.heap.size w1 w2 := by subst hw2; exact (Below.refl _ _).alloc (Nat.le_refl _) _
  have ha2 : WrAt w2 w1.heap.size (.slice none 0 0) [] := by subst hw2; exact wr_new w1
  have hz2 : w2.heap.size = w1.heap.size + 1 := by subst hw2; simp
  obtain ⟨w3, hw3⟩ : ∃ x, x = w2.alloc (.cells #[] 5) := ⟨_, rfl⟩
  have hb3 : Below w2.heap.size w2 w3 := by subst hw3; exact (Below.refl _ _).alloc (Nat.le_refl _) _
  have ho3 : Own EU8 5 w2.heap.size w3 (.slice (some ⟨w2.heap.size, 0, none⟩) 0 0) [] := by subst hw3; exact own_empty EU8 5 w2 (by decide)
  have ha3 := ha2.keep hb3
  have hb13 : Below w1.heap.size w1 w3 := hb2.trans (hb3.mono hb2.size)
  rw [hz2] at ho3
  obtain ⟨g, hg⟩ : ∃ g, g = w1.heap.size := ⟨_, rfl⟩
  have hlen : ∀ k, k ≤ ts.length → (Bts.itemsBits (ts.take k)).length ≤ 5160 := fun k hk => by
    have := Bts.itemsBits_len (ts.take k)
    have h2 : (ts.take k).length * 129 ≤ 40 * 129 := Nat.mul_le_mul_right _ (by rw [List.length_take]; omega)
    omega
  have Hlen := Lib.hid hlen
  clear hlen hs ha2 hb2 hb3
  go_wp2_with fail
  rw [← hw2, ← hw3]
  rw [← hg] at ha3 hb13 ho3 ⊢
  have Hg := Lib.hid hg
  clear hw2 hw3 hg hz2
  go_loopw [4, 19] (fun vw i wr => ∃ (j : Nat) (v : Value), j ≤ ts.length ∧ i = .int .i64 j ∧ WrAt wr g v (Bts.itemsBits (ts.take j)) ∧ Own EU8 5 (g + 1) wr vw (Bts.asB (Bts.itemsBits (ts.take j))) ∧ (∀ b, v.ownBlock = some b → vw.ownBlock ≠ some b) ∧ Below g w1 wr) (fun _ i _ => ts.length - (intOf i).toNat)
  case atStart => exact ⟨0, _, Nat.zero_le _, rfl, ha3, ho3, by simp [Value.ownBlock], hb13⟩
  case round =>
    obtain ⟨j, v, hj, rfl, ha, ho, hd, hb⟩ := hrel
    have hb' : Below w1.heap.size w1 wr := by rw [← Hg.out]; exact hb
    have hsr := hs1.below (by decide) hb'
    have hgr : g ≤ wr.heap.size := Nat.le_of_lt ha.lt
    by_cases hlt : j < ts.length
    · have hji : (j : Int) < (ts.length : Int) := by omega
      obtain ⟨b5, o5, rfl, p1, p2, p3, p4, q3, q4⟩ := sl_item hsr j hlt
      have hsn := Bts.itemsBits_snoc ts j hlt
      have hrp := sl_item_rep hsr j hlt
      obtain ⟨t, ht⟩ : ∃ t, t = ts[j] := ⟨_, rfl⟩
      rw [← ht] at p1 p2 p3 p4 q3 q4 hsn hrp
      clear ht
      obtain ⟨tk, tx, tn, ti⟩ := t
      dsimp only at p1 p2 p3 p4 q3 q4
      obtain ⟨w4, hw4⟩ : ∃ x, x = wr.alloc (.cells #[.int .i64 tk, .int .u64 (bv tx), .int .i64 tn, .int .i64 ti] 40) := ⟨_, rfl⟩
      have hb4 : Below wr.heap.size wr w4 := by subst hw4; exact (Below.refl _ _).alloc (Nat.le_refl _) _
      have hh4 : w4.heap[wr.heap.size]? = some (.cells #[.int .i64 tk, .int .u64 (bv tx), .int .i64 tn, .int .i64 ti] 40 (0, 0)) := by subst hw4; exact heap_alloc_new wr _
      obtain ⟨s0, hs0⟩ : ∃ s, s = wr.heap.size := ⟨_, rfl⟩
      rw [← hs0] at hh4
      have z0 : w4.cell? ⟨s0, 0, none⟩ = some (.int .i64 tk) := by simp [World.cell?, hh4]
      have z1 : w4.cell? ⟨s0, 1, none⟩ = some (.int .u64 (bv tx)) := by simp [World.cell?, hh4]
      have z2 : w4.cell? ⟨s0, 2, none⟩ = some (.int .i64 tn) := by simp [World.cell?, hh4]
      have z3 : w4.cell? ⟨s0, 3, none⟩ = some (.int .i64 ti) := by simp [World.cell?, hh4]
      have ha4 := ha.keep hb4
      have ho4 := ho.below hb4
      have hbg4 : Below g w1 w4 := hb.trans (hb4.mono hgr)
      have hl4 := Hlen.out j (by omega)
      have hs04 : s0 < w4.heap.size := cell_lt z0
      have hgs : g < s0 := by rw [hs0]; exact ha.lt
      have hvs : ∀ b, v.ownBlock = some b → b < s0 := fun b hb => by rw [hs0]; exact (ha.own b hb).2
      have hown : ∀ b, v.ownBlock = some b → g ≤ b := fun b hb => by have := (ha4.own b hb).1; omega
      have howw : ∀ b, u4.ownBlock = some b → g + 1 ≤ b ∧ b < w4.heap.size := ho4.lt
      have Hrp := Lib.hid hrp
      have Hsn := Lib.hid hsn
      have Hown := Lib.hid hown
      have Howw := Lib.hid howw
      have Hvs := Lib.hid hvs
      have Hd := Lib.hid hd
      have Hs0 := Lib.hid hs0
      clear hsn hrp hh4 hown howw hvs hd
      have hgw4 : g ≤ w4.heap.size := Nat.le_of_lt ha4.lt
      go_upto_region 10 with fail
      rw [← hw4]
      rw [← hs0]
      clear hw4 hs0 hb4
      go_upto_block 2 with fail
      go_cut [] (fun wx => ∃ v2, WrAt wx g v2 (Bts.itemsBits (ts.take (j + 1))) ∧ Wrote g v w4 v2 wx)
      case first =>
        by_cases k0 : tk = 0
        · have k0' : (tk == 0) = true := by simpa using k0
          have hit : Bts.itemBits (tk, tx, tn, ti) = Bts.put tx tn := by unfold Bts.itemBits; rw [if_pos k0]
          have Hit := Lib.hid hit
          clear hit k0
          go_wp2_with fail
          refine (bits_Put g v _ tx tn _ ha4 q3 (by omega)).mono ?_
          rintro e w5 ⟨rfl, v5, ha5, ht5⟩
          go_wp2_with fail
          go_meet
          exact ⟨v5, by rw [Hsn.out, Hit.out]; exact ha5, ht5⟩
        · have k0' : (tk == 0) = false := by simpa using k0
          by_cases k1 : tk = 1
          · have k1' : (tk == 1) = true := by simpa using k1
            have hit : Bts.itemBits (tk, tx, tn, ti) = Bts.num tx := by unfold Bts.itemBits; rw [if_neg k0, if_pos k1]
            have Hit := Lib.hid hit
            clear hit k0 k1
            go_wp2_with fail
            refine (bits_Num g v _ tx _ ha4 (by omega)).mono ?_
            rintro e w5 ⟨rfl, v5, ha5, ht5⟩
            go_wp2_with fail
            go_meet
            exact ⟨v5, by rw [Hsn.out, Hit.out]; exact ha5, ht5⟩
          · have k1' : (tk == 1) = false := by simpa using k1
            have hit : Bts.itemBits (tk, tx, tn, ti) = Bts.int ti := by unfold Bts.itemBits; rw [if_neg k0, if_neg k1]
            have Hit := Lib.hid hit
            clear hit k0 k1
            go_wp2_with fail
            refine (bits_Int g v _ ti _ ha4 (by omega) q4).mono ?_
            rintro e w5 ⟨rfl, v5, ha5, ht5⟩
            go_wp2_with fail
            go_meet
            exact ⟨v5, by rw [Hsn.out, Hit.out]; exact ha5, ht5⟩
      obtain ⟨v5, ha5, ht5⟩ := hcut
      obtain ⟨w5, hw5⟩ : ∃ x, x = wc := ⟨_, rfl⟩
      subst hw5
      have hnS : ∀ k, k ≠ g → v.ownBlock ≠ some k → ¬ (k = g ∨ v.ownBlock = some k) := fun k h1 h2 h => by rcases h with h | h; exact h1 h; exact h2 h
      have hS0 : ¬ (s0 = g ∨ v.ownBlock = some s0) := hnS s0 (by omega) (fun e => by have := Hvs.out s0 e; omega)
      have y0 := (cell_keep (ht5.only.block s0 hs04 hS0)).trans z0
      have y1 := (cell_keep (ht5.only.block s0 hs04 hS0)).trans z1
      have y2 := (cell_keep (ht5.only.block s0 hs04 hS0)).trans z2
      have y3 := (cell_keep (ht5.only.block s0 hs04 hS0)).trans z3
      have ho5 := ho4.only ht5.only (fun b hb => hnS b (by have := (Howw.out b hb).1; omega) (fun e => Hd.out b e hb))
      have hd5 : ∀ b, v5.ownBlock = some b → u4.ownBlock ≠ some b := fun b hb e => by
        rcases ht5.own with h | ⟨c, h, hc⟩
        · rw [h] at hb; exact Hd.out b hb e
        · rw [h] at hb; injection hb with hb; have := (Howw.out b e).2; omega
      have hbg5 : Below g w1 w5 := hbg4.trans (ht5.below hgw4 (Nat.le_refl _) Hown.out)
      have hgw5 : g ≤ w5.heap.size := Nat.le_of_lt ha5.lt
      have Hd5 := Lib.hid hd5
      clear hd5 hnS hS0 z0 z1 z2 z3 ha4 ho4 hbg4 ha ho
      have hl5 := Hlen.out (j + 1) (by omega)
      obtain ⟨L5, hL5⟩ : ∃ x, x = Bts.itemsBits (ts.take (j + 1)) := ⟨_, rfl⟩
      have hapd : Bts.asB (Bts.itemsBits (ts.take j)) ++ Bts.asB (Bts.itemBits (tk, tx, tn, ti)) = Bts.asB L5 := by rw [← Bts.asB_app, ← Hsn.out, hL5]
      rw [← hL5] at ha5 hl5
      have hit := Bts.itemBits_len (tk, tx, tn, ti)
      have HL5 := Lib.hid hL5
      have Hapd := Lib.hid hapd
      clear hL5 hapd
      have hlA : (Bts.asB (Bts.itemsBits (ts.take j))).length ≤ 5160 := by rw [Bts.asB_len]; exact hl4
      have hlB : (Bts.asB (Bts.itemBits (tk, tx, tn, ti))).length ≤ 129 := by rw [Bts.asB_len]; exact hit
      obtain ⟨lb, hlb⟩ : ∃ x, x = (Bts.asB (Bts.itemBits (tk, tx, tn, ti))).length := ⟨_, rfl⟩
      have Hlb := Lib.hid hlb
      rw [← hlb] at hlB
      clear hlb hit
      go_wp2_with fail
      refine (law_textOf _ (tk, tx, tn, ti) w5.heap.size _ (by rfl) (Hrp.out _)).mono ?_
      rintro e w6 ⟨v6, rfl, ho6, hb6⟩
      obtain ⟨a6, c6, rfl, hc6, hm6, hr6, ho6'⟩ := ho6.shape lb Hlb.out
      have hoW := ho5.below hb6
      have ha6 := ha5.keep hb6
      have hbg6 := hbg5.trans (hb6.mono hgw5)
      have hgw6 : g + 1 ≤ w6.heap.size := ha6.lt
      have hsl6 : Sl EU8 (fun b => some b ≠ u4.ownBlock) w6 a6 (Bts.asB (Bts.itemBits (tk, tx, tn, ti))) := ho6'.slB.mono (by decide) fun q hq _ => ⟨rfl, fun e => by have := (ho5.lt q e.symm).2; omega⟩
      clear ho6 ho6' hr6
      go_wp2_with (first
        | (refine wpList_app EU8 rfl rfl (by rfl) (by rfl) ti_bytes hoW Hlb.out hsl6 (by rw [← Hlb.out]; unfold maxLen; omega) (by rw [← Hlb.out]; omega) hgw6 ?_
           intro v7 w7 ho7 hg7 hv7 hb7
           rw [Hapd.out] at ho7
           obtain ⟨a7, c7, rfl, hc7, hm7, hr7, ho7'⟩ := ho7.shape L5.length (by rw [Bts.asB_len])
           have ha7 := ha6.only (S := fun k => u4.ownBlock = some k) ⟨hg7.os, hg7.tape, hg7.output, hg7.size, fun k hk hn => hg7.block k hk fun e => hn e.symm⟩ (fun e => by have := (ho5.lt g e).1; omega) (fun b hb e => Hd5.out b hb e)))
      refine (bits_WLen g v5 _ _ ha7).mono ?_
      rintro e w8 ⟨rfl, rfl⟩
      have hbg7 : Below g w1 w7 := hbg6.trans (hb7.mono (Nat.le_succ _))
      have hd7 : ∀ b, v5.ownBlock = some b → (Value.slice a7 L5.length c7).ownBlock ≠ some b := fun b hb e => by
        rcases hv7 with h | ⟨c, h, hc⟩
        · rw [h] at e; exact Hd5.out b hb e
        · rw [h] at e; injection e with e; have := (ha6.own b hb).2; omega
      have Hd7 := Lib.hid hd7
      clear hd7
      go_wp2_with fail
      go_roundw
      case rel => exact ⟨j + 1, v5, by omega, by go_num, by rw [← HL5.out]; exact ha7, by rw [← HL5.out]; exact ho7', Hd7.out, hbg7⟩
      case measure => simp [intOf]; omega
    · obtain rfl : j = ts.length := by omega
      rw [List.take_length] at ha ho
      have hl3 := Hlen.out ts.length (Nat.le_refl _)
      rw [List.take_length] at hl3
      obtain ⟨wq, hwq⟩ : ∃ x, x = wr := ⟨_, rfl⟩
      subst hwq
      have hbwq := hbw1.trans (hb'.mono hbw1.size)
      obtain ⟨L, hL⟩ : ∃ L, L = Bts.itemsBits ts := ⟨_, rfl⟩
      rw [← hL] at ha hl3 ho
      clear hL hs1 hsr ha3 ho3 hb13 hb hd
      obtain ⟨a4, c4, rfl, hc4, hm4, hr4, ho4⟩ := ho.shape L.length (by rw [Bts.asB_len])
      have hpl := Bts.pack_len L
      have hpl2 : (Bts.pack L).length ≤ 1000 := by omega
      obtain ⟨P, hP⟩ : ∃ P, P = Bts.pack L := ⟨_, rfl⟩
      have HP := Lib.hid hP
      rw [← hP] at hpl2
      clear hpl hP
      go_wp2_with fail
      refine (bits_Bytes wq.heap.size _ _ _ _ (by rfl) ha (by omega)).mono ?_
      rw [← HP.out]
      rintro e w6 ⟨v6, rfl, ho6, hb6⟩
      obtain ⟨a6, c6, rfl, hc6, hm6, hr6, ho6'⟩ := ho6.shape P.length rfl
      have hr46 := hr4.below (by decide) hb6
      have ha6 := ha.keep hb6
      have hbw6 := hbwq.trans (hb6.mono hbwq.size)
      go_wp2_with fail
      refine (ref_Bytes _ _ _ L w6.heap.size _ (by rfl) hr46 (by omega)).mono ?_
      rw [← HP.out]
      rintro e w7 ⟨v7, rfl, ho7, hb7⟩
      obtain ⟨a7, c7, rfl, hc7, hm7, hr7, _⟩ := ho7.shape P.length rfl
      have hr67 := hr6.below (by decide) hb7
      have hr47 := hr46.below (by decide) hb7
      have ha7 := ha6.keep hb7
      have ho67 := ho6'.below hb7
      have hbw7 := hbw6.trans (hb7.mono hbw6.size)
      have hsz67 := hb6.size
      have hsz77 := hb7.size
      have hbq7 : Below wq.heap.size wq w7 := hb6.trans (hb7.mono hb6.size)
      clear ho ho4 ho6 ho6' ho7 hr46 hr6 ha6 ha7 hr47
      go_wp2_with fail
      refine (ref_Same _ _ _ _ _ _ P P _ hr67 hr7).mono ?_
      rintro e w8 ⟨rfl, rfl⟩
      rw [beq_self_eq_true]
      go_wp2_with fail
      go_loopw [62] (fun i wr => ∃ (k : Nat) (C : List (BitVec 8)), k ≤ P.length ∧ i = .int .i64 k ∧ Own EU8 5 wq.heap.size wr (.slice a6 P.length c6) C ∧ C.length = P.length ∧ Below wq.heap.size wq wr) (fun i _ => P.length - (intOf i).toNat)
      case atStart => exact ⟨0, P, Nat.zero_le _, rfl, ho67, rfl, hbq7⟩
      case round =>
        obtain ⟨k, C, hk, rfl, hoC, hCl, hbr⟩ := hrel
        by_cases hkl : k < P.length
        · have hki : (k : Int) < (P.length : Int) := by omega
          obtain ⟨gb, rfl, hgb, hcg, hfg⟩ := hoC.at k (by omega)
          have hset : ∀ x, Own EU8 5 wq.heap.size (wr.setCell ⟨gb, k, none⟩ (.int .u8 (bv x))) (.slice (some ⟨gb, 0, none⟩) P.length c6) (C.set k x) := fun x => Own.set hoC k x
          have Hset := Lib.hid hset
          clear hset
          go_wp2_with fail
          go_roundw
          case rel => exact ⟨k + 1, _, by omega, by go_num, Hset.out _, by simp [hCl], hbr.setCell hgb _⟩
          case measure => simp [intOf]; omega
        · obtain ⟨wz, hwz⟩ : ∃ x, x = wr := ⟨_, rfl⟩
          subst hwz
          have haz := ha.keep hbr
          have hrz := hr4.below (by decide) hbr
          have hbwz := hbwq.trans (hbr.mono hbwq.size)
          have hki : ¬ ((k : Int) < (P.length : Int)) := by omega
          clear hoC ho67 hr67 hr7 ha hr4
          go_wp2_with fail
          refine (bits_Bytes wz.heap.size _ _ _ _ (by rfl) haz (by omega)).mono ?_
          rw [← HP.out]
          rintro e w8 ⟨v8, rfl, ho8, hb8⟩
          obtain ⟨a8, c8, rfl, hc8, hm8, hr8, _⟩ := ho8.shape P.length rfl
          have hrz8 := hrz.below (by decide) hb8
          have hbw8 := hbwz.trans (hb8.mono hbwz.size)
          go_wp2_with fail
          refine (ref_Bytes _ _ _ L w8.heap.size _ (by rfl) hrz8 (by omega)).mono ?_
          rw [← HP.out]
          rintro e w9 ⟨v9, rfl, ho9, hb9⟩
          obtain ⟨a9, c9, rfl, hc9, hm9, hr9, _⟩ := ho9.shape P.length rfl
          have hr89 := hr8.below (by decide) hb9
          go_wp2_with fail
          refine (ref_Same _ _ _ _ _ _ P P _ hr89 hr9).mono ?_
          rintro e w10 ⟨rfl, rfl⟩
          rw [beq_self_eq_true]
          go_wp2_with fail
          go_ret
          exact ⟨rfl, hbw8.trans (hb9.mono hbw8.size)⟩
end Go.Proofs.Ytpcelfbekcpjmaa

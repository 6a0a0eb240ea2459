/-
  The walk of the law 'BitsBack'.
-/
import Derived.Test.YtpcelfbekcpjmaaBtsRNum
import Derived.Test.YtpcelfbekcpjmaaBtsItem
import Derived.Test.YtpcelfbekcpjmaaBitsSizesWalk
namespace Go.Proofs.Ytpcelfbekcpjmaa
open Go.RowKit
set_option linter.unusedVariables false

namespace Bts
theorem val_mask (x : BitVec 64) (m : Nat) (hm : m < 64) : val (low x m) = x &&& (BitVec.ofInt 64 (2 ^ m) - 1#64) := by
  have hp : 2 ^ m < 2 ^ 64 := Nat.pow_lt_pow_right (by decide) hm
  have h1 : 0 < 2 ^ m := Nat.two_pow_pos m
  apply BitVec.eq_of_toNat_eq
  rw [val_low x m (by omega), BitVec.toNat_and]
  have e : (BitVec.ofInt 64 (2 ^ m) - 1#64).toNat = 2 ^ m - 1 := by
    rw [ofInt_pow m (by decide), BitVec.toNat_sub, BitVec.toNat_shiftLeft, Nat.shiftLeft_eq]
    simp only [BitVec.toNat_ofNat]
    rw [show 1 % 2 ^ 64 = 1 by rfl, Nat.one_mul, Nat.mod_eq_of_lt hp]
    omega
  rw [e, Nat.and_two_pow_sub_one_eq_mod]
theorem val_full (x : BitVec 64) : val (low x 64) = x := by
  apply BitVec.eq_of_toNat_eq
  rw [val_low x 64 (by omega), Nat.mod_eq_of_lt x.isLt]
/-- the reader before the j-th thing -/
def rAt (ts : List BItem) (j : Nat) : Rd := ⟨(itemsBits (ts.take j)).length, 0⟩
theorem rest_item {b : Bytes} {ts : List BItem} {z : Nat} (hb : bitsOf b = itemsBits ts ++ zeros z) (j : Nat) (hj : j < ts.length) : ∃ t, rest b (rAt ts j) = itemBits ts[j] ++ t := by
  refine ⟨itemsBits (ts.drop (j + 1)) ++ zeros z, ?_⟩
  unfold rest rAt
  rw [if_pos rfl, hb, itemsBits_split ts j hj, List.append_assoc, List.drop_append_of_le_length (Nat.le_refl _), List.drop_length, List.nil_append, List.append_assoc]
theorem rAt_succ (ts : List BItem) (j : Nat) (hj : j < ts.length) : rAt ts (j + 1) = ⟨(rAt ts j).at_ + (itemBits ts[j]).length, 0⟩ := by
  unfold rAt
  rw [itemsBits_snoc ts j hj, List.length_append]
end Bts

set_option maxRecDepth 4096 in
set_option maxHeartbeats 3200000 in
theorem law_BitsBack (a : Option Addr) (c : Nat) (ts : List BItem) (w : World) (hs : Sl EItem (fun _ => True) w a ts) (hc : ts.length ≤ c) (hcm : c ≤ maxLen) :
    Calls Try.prog 9 #[.slice a ts.length c] w fun e w' => e = .returned (.bool true) ∧ Below w.heap.size w w' := by
  go_enter Try.func9, Try.ntmps9
  go_wp2_with fail
  refine (law1_wrote _).mono ?_
  rintro e w0 ⟨rfl, hb0⟩
  go_wp2_with fail
  refine (law1_took _).mono ?_
  rintro e w1 ⟨rfl, hb1⟩
  have hbw1 := hb0.trans (hb1.mono hb0.size)
  clear hb0 hb1
  by_cases h1 : 40 < ts.length
  · have h1' : decide (40 < (ts.length : Int)) = true := by simp; omega
    go_wp2
    go_ret
    exact ⟨rfl, hbw1⟩
  have h1' : decide (40 < (ts.length : Int)) = false := by simp; omega
  have hs1 := hs.below (by decide) hbw1
  obtain ⟨w2, hw2⟩ : ∃ x, x = w1.alloc (.cells #[.slice none 0 0, .int .i64 0] 27) := ⟨_, rfl⟩
  have hb2 : Below w1.heap.size w1 w2 := by subst hw2; exact (Below.refl _ _).alloc (Nat.le_refl _) _
  have ha2 : WrAt w2 w1.heap.size (.slice none 0 0) [] := by subst hw2; exact wr_new w1
  obtain ⟨g, hg⟩ : ∃ g, g = w1.heap.size := ⟨_, rfl⟩
  have hlen : ∀ k, k ≤ ts.length → (Bts.itemsBits (ts.take k)).length ≤ 5160 := fun k hk => by
    have := Bts.itemsBits_len (ts.take k)
    have h2 : (ts.take k).length * 129 ≤ 40 * 129 := Nat.mul_le_mul_right _ (by rw [List.length_take]; omega)
    omega
  have Hlen := Lib.hid hlen
  clear hlen hs
  go_wp2_with fail
  rw [← hw2]
  rw [← hg] at ha2 hb2 ⊢
  have Hg := Lib.hid hg
  clear hw2 hg
  go_loopw [24] (fun i wr => ∃ (j : Nat) (v : Value), j ≤ ts.length ∧ i = .int .i64 j ∧ WrAt wr g v (Bts.itemsBits (ts.take j)) ∧ Below g w1 wr) (fun i _ => ts.length - (intOf i).toNat)
  case atStart => exact ⟨0, _, Nat.zero_le _, rfl, ha2, hb2⟩
  case round =>
    obtain ⟨j, v, hj, rfl, ha, hb⟩ := hrel
    have hb' : Below w1.heap.size w1 wr := by rw [← Hg.out]; exact hb
    have hsr := hs1.below (by decide) hb'
    have hgr : g ≤ wr.heap.size := Nat.le_of_lt ha.lt
    by_cases hlt : j < ts.length
    · have hji : (j : Int) < (ts.length : Int) := by omega
      obtain ⟨b5, o5, rfl, p1, p2, p3, p4, q3, q4⟩ := sl_item hsr j hlt
      have hsn := Bts.itemsBits_snoc ts j hlt
      obtain ⟨t, ht⟩ : ∃ t, t = ts[j] := ⟨_, rfl⟩
      rw [← ht] at p1 p2 p3 p4 q3 q4 hsn
      clear ht
      obtain ⟨tk, tx, tn, ti⟩ := t
      dsimp only at p1 p2 p3 p4 q3 q4
      obtain ⟨w3, hw3⟩ : ∃ x, x = wr.alloc (.cells #[.int .i64 tk, .int .u64 (bv tx), .int .i64 tn, .int .i64 ti] 40) := ⟨_, rfl⟩
      have hb3 : Below wr.heap.size wr w3 := by subst hw3; exact (Below.refl _ _).alloc (Nat.le_refl _) _
      have hh3 : w3.heap[wr.heap.size]? = some (.cells #[.int .i64 tk, .int .u64 (bv tx), .int .i64 tn, .int .i64 ti] 40 (0, 0)) := by subst hw3; exact heap_alloc_new wr _
      have z0 : w3.cell? ⟨wr.heap.size, 0, none⟩ = some (.int .i64 tk) := by simp [World.cell?, hh3]
      have z1 : w3.cell? ⟨wr.heap.size, 1, none⟩ = some (.int .u64 (bv tx)) := by simp [World.cell?, hh3]
      have z2 : w3.cell? ⟨wr.heap.size, 2, none⟩ = some (.int .i64 tn) := by simp [World.cell?, hh3]
      have z3 : w3.cell? ⟨wr.heap.size, 3, none⟩ = some (.int .i64 ti) := by simp [World.cell?, hh3]
      have ha3 := ha.keep hb3
      have hbg3 : Below g w1 w3 := hb.trans (hb3.mono hgr)
      have hl3 := Hlen.out j (by omega)
      have Hsn := Lib.hid hsn
      clear hsn hh3
      go_upto_region 9 with fail
      rw [← hw3]
      clear hw3
      have hgw3 : g ≤ w3.heap.size := Nat.le_of_lt ha3.lt
      have hown : ∀ b, v.ownBlock = some b → g ≤ b := fun b hb => by have := (ha3.own b hb).1; omega
      have Hown := Lib.hid hown
      clear hown
      by_cases k0 : tk = 0
      · have k0' : (tk == 0) = true := by simpa using k0
        have hit : Bts.itemBits (tk, tx, tn, ti) = Bts.put tx tn := by unfold Bts.itemBits; rw [if_pos k0]
        have Hit := Lib.hid hit
        clear hit k0
        go_wp2_with fail
        refine (bits_Put g v _ tx tn _ ha3 q3 (by omega)).mono ?_
        rintro e w4 ⟨rfl, v4, ha4, ht4⟩
        have hbg4 := hbg3.trans (ht4.below hgw3 (Nat.le_refl _) Hown.out)
        go_wp2_with fail
        go_roundw
        case rel => exact ⟨j + 1, v4, by omega, by go_num, by rw [Hsn.out, Hit.out]; exact ha4, hbg4⟩
        case measure => simp [intOf]; omega
      · have k0' : (tk == 0) = false := by simpa using k0
        by_cases k1 : tk = 1
        · have k1' : (tk == 1) = true := by simpa using k1
          have hit : Bts.itemBits (tk, tx, tn, ti) = Bts.num tx := by unfold Bts.itemBits; rw [if_neg k0, if_pos k1]
          have Hit := Lib.hid hit
          clear hit k0 k1
          go_wp2_with fail
          refine (bits_Num g v _ tx _ ha3 (by omega)).mono ?_
          rintro e w4 ⟨rfl, v4, ha4, ht4⟩
          have hbg4 := hbg3.trans (ht4.below hgw3 (Nat.le_refl _) Hown.out)
          go_wp2_with fail
          go_roundw
          case rel => exact ⟨j + 1, v4, by omega, by go_num, by rw [Hsn.out, Hit.out]; exact ha4, hbg4⟩
          case measure => simp [intOf]; omega
        · have k1' : (tk == 1) = false := by simpa using k1
          have hit : Bts.itemBits (tk, tx, tn, ti) = Bts.int ti := by unfold Bts.itemBits; rw [if_neg k0, if_neg k1]
          have Hit := Lib.hid hit
          clear hit k0 k1
          go_wp2_with fail
          refine (bits_Int g v _ ti _ ha3 (by omega) q4).mono ?_
          rintro e w4 ⟨rfl, v4, ha4, ht4⟩
          have hbg4 := hbg3.trans (ht4.below hgw3 (Nat.le_refl _) Hown.out)
          go_wp2_with fail
          go_roundw
          case rel => exact ⟨j + 1, v4, by omega, by go_num, by rw [Hsn.out, Hit.out]; exact ha4, hbg4⟩
          case measure => simp [intOf]; omega
    · obtain rfl : j = ts.length := by omega
      rw [List.take_length] at ha
      have hl3 := Hlen.out ts.length (Nat.le_refl _)
      rw [List.take_length] at hl3
      obtain ⟨wq, hwq⟩ : ∃ x, x = wr := ⟨_, rfl⟩
      subst hwq
      have hbwq := hbw1.trans (hb'.mono hbw1.size)
      clear ha2 hb2 hs1 hb
      obtain ⟨L, hL⟩ : ∃ L, L = Bts.itemsBits ts := ⟨_, rfl⟩
      rw [← hL] at ha hl3
      have HL := Lib.hid hL
      clear hL
      go_wp2_with fail
      refine (bits_Bytes wq.heap.size _ _ _ _ (by rfl) ha (by omega)).mono ?_
      rintro e w6 ⟨v6, rfl, ho6, hb6⟩
      obtain ⟨a6, c6, rfl, hc6, hm6, hr6, _⟩ := ho6.shape _ rfl
      have hpl := Bts.pack_len L
      have hpl2 : (Bts.pack L).length ≤ 1000 := by omega
      have hbits := Bts.bitsOf_pack L
      obtain ⟨b, hbb⟩ : ∃ b, b = Bts.pack L := ⟨_, rfl⟩
      rw [← hbb] at hr6 hpl hpl2 hbits hc6 ⊢
      have Hpl := Lib.hid hpl
      have Hbits := Lib.hid hbits
      clear hpl hbits hbb
      have hsr6 := hsr.below (by decide) hb6
      have hbw6 := hbwq.trans (hb6.mono hbwq.size)
      clear ho6 ha
      go_wp2_with fail
      refine (bits_Read w6.heap.size _ _ _ b _ (by rfl) hr6 (by omega)).mono ?_
      rintro e w7 ⟨k, rfl, hk, hr7, hb7⟩
      have hsr7 := hsr6.below (by decide) hb7
      have hbw7 := hbw6.trans (hb7.mono hbw6.size)
      have hwk : w.heap.size ≤ k := by have := hbw6.size; omega
      clear hsr6 hr6
      go_wp2_with fail
      have hkw7 : k < w7.heap.size := hr7.lt
      have hk6 := Lib.hid hk
      go_loopw [56] (fun i wr => ∃ j : Nat, j ≤ ts.length ∧ i = .int .i64 j ∧ RdAt (fun q => w6.heap.size ≤ q ∧ q < k) wr k b (Bts.rAt ts j) ∧ Only (· = k) w7 wr) (fun i _ => ts.length - (intOf i).toNat)
      case atStart => exact ⟨0, Nat.zero_le _, rfl, by simpa [Bts.rAt, Bts.itemsBits] using hr7, Only.refl _ _⟩
      case round =>
        obtain ⟨j, hj, rfl, hrj, hoj⟩ := hrel
        have hbkj : Below k w7 wr := hoj.below (Nat.le_of_lt hkw7) fun q hq => by omega
        have hbwj : Below w.heap.size w wr := hbw7.trans (hbkj.mono hwk)
        have hsrj := hsr.below (by decide) (hb6.trans ((hb7.trans (hbkj.mono hk)).mono hb6.size))
        have hkr : k < wr.heap.size := hrj.lt
        by_cases hlt : j < ts.length
        · have hji : (j : Int) < (ts.length : Int) := by omega
          obtain ⟨b5, o5, rfl, p1, p2, p3, p4, q3, q4⟩ := sl_item hsrj j hlt
          obtain ⟨tl, htl⟩ := Bts.rest_item (b := b) (ts := ts) (z := 8 * ((L.length + 7) / 8) - L.length) (by rw [← HL.out]; exact Hbits.out) j hlt
          have hsu := Bts.rAt_succ ts j hlt
          obtain ⟨t, ht⟩ : ∃ t, t = ts[j] := ⟨_, rfl⟩
          rw [← ht] at p1 p2 p3 p4 q3 q4 htl hsu
          clear ht
          obtain ⟨tk, tx, tn, ti⟩ := t
          dsimp only at p1 p2 p3 p4 q3 q4
          obtain ⟨w8, hw8⟩ : ∃ x, x = wr.alloc (.cells #[.int .i64 tk, .int .u64 (bv tx), .int .i64 tn, .int .i64 ti] 40) := ⟨_, rfl⟩
          have hb8 : Below wr.heap.size wr w8 := by subst hw8; exact (Below.refl _ _).alloc (Nat.le_refl _) _
          have hh8 : w8.heap[wr.heap.size]? = some (.cells #[.int .i64 tk, .int .u64 (bv tx), .int .i64 tn, .int .i64 ti] 40 (0, 0)) := by subst hw8; exact heap_alloc_new wr _
          obtain ⟨s0, hs0⟩ : ∃ s, s = wr.heap.size := ⟨_, rfl⟩
          rw [← hs0] at hh8
          have z0 : w8.cell? ⟨s0, 0, none⟩ = some (.int .i64 tk) := by simp [World.cell?, hh8]
          have z1 : w8.cell? ⟨s0, 1, none⟩ = some (.int .u64 (bv tx)) := by simp [World.cell?, hh8]
          have z2 : w8.cell? ⟨s0, 2, none⟩ = some (.int .i64 tn) := by simp [World.cell?, hh8]
          have z3 : w8.cell? ⟨s0, 3, none⟩ = some (.int .i64 ti) := by simp [World.cell?, hh8]
          have hks : k < s0 := by rw [hs0]; exact hkr
          have hs08 : s0 < w8.heap.size := cell_lt z0
          have hr8 := hrj.keep hb8
          have ho8 : Only (· = k) w7 w8 := hoj.trans (Below.only (S := fun x => x = k) hb8) fun _ _ h => h
          have Htl := Lib.hid htl
          have Hsu := Lib.hid hsu
          clear htl hsu hh8 hb8
          go_upto_region 22 with fail
          rw [← hw8]
          rw [← hs0]
          have Hs0 := Lib.hid hs0
          clear hw8 hs0
          by_cases k0 : tk = 0
          · have k0' : (tk == 0) = true := by simpa using k0
            obtain ⟨m, hm⟩ : ∃ m, m = Bts.clamp tn := ⟨_, rfl⟩
            have hm64 : m ≤ 64 := by rw [hm]; exact Bts.clamp_le tn
            have hmn : max 0 (min tn 64) = (m : Int) := by rw [hm]; unfold Bts.clamp; omega
            have hit : Bts.itemBits (tk, tx, tn, ti) = Bts.put tx tn := by unfold Bts.itemBits; rw [if_pos k0]
            have hget : Bts.getR b (Bts.rAt ts j) tn = (Bts.val (Bts.low tx m), Bts.rAt ts (j + 1)) := by
              rw [Bts.getR_put rfl (by rw [Htl.out, hit]), Hsu.out, hit, hm]; rfl
            have Hget := Lib.hid hget
            clear hit k0 hget hm
            by_cases hm6 : m = 64
            · subst hm6
              have hvf := Bts.val_full tx
              go_wp2_with fail
              refine (bits_Get k b _ tn _ hr8 (by omega) q3).mono ?_
              rw [Hget.out, hvf]
              rintro e w9 ⟨rfl, hr9, ho9⟩
              go_wp2_with fail
              go_roundw
              case rel => exact ⟨j + 1, by omega, by go_num, hr9, ho8.trans ho9 fun _ _ h => h⟩
              case measure => simp [intOf]; omega
            · have hm6' : ((m : Int) < 64) := by omega
              have hu : bv (BitVec.ofNat 64 m) = (m : Int) := by unfold bv; rw [BitVec.toNat_ofNat]; omega
              have hvm := Bts.val_mask tx m (by omega)
              have Hvm := Lib.hid hvm
              clear hvm
              go_wp2_with fail
              refine (bits_Get k b _ tn _ hr8 (by omega) q3).mono ?_
              rw [Hget.out, Hvm.out]
              rintro e w9 ⟨rfl, hr9, ho9⟩
              go_wp2_with fail
              go_roundw
              case rel => exact ⟨j + 1, by omega, by go_num, hr9, ho8.trans ho9 fun _ _ h => h⟩
              case measure => simp [intOf]; omega
          · have k0' : (tk == 0) = false := by simpa using k0
            by_cases k1 : tk = 1
            · have k1' : (tk == 1) = true := by simpa using k1
              have hit : Bts.itemBits (tk, tx, tn, ti) = Bts.num tx := by unfold Bts.itemBits; rw [if_neg k0, if_pos k1]
              have hget : Bts.numR b (Bts.rAt ts j) = (tx, Bts.rAt ts (j + 1)) := by
                rw [Bts.numR_num rfl (by rw [Htl.out, hit]), Hsu.out, hit]
              have Hget := Lib.hid hget
              clear hit k0 k1 hget
              go_upto_region 33 with fail
              go_cut [95] (fun s wx => s = .bool false ∧ RdAt (fun q => w6.heap.size ≤ q ∧ q < k) wx k b (Bts.rAt ts (j + 1)) ∧ Only (· = k) w8 wx)
              case first =>
                go_region_held3 (fun W => W.cell? ⟨s0, 1, none⟩ = some (.int .u64 (bv tx)))
                  (first | go_keep | exact (cell_keep (ho9.block s0 hs08 (by omega))).trans z1)
                  ((first
                    | (go_at_call 27; refine (bits_RNum k b _ _ (hr8.keep (Below.refl _ _).drew) (by omega)).mono ?_; rw [Hget.out]; rintro e w9 ⟨rfl, hr9, ho9⟩)))
                all_goals (go_wp2_with fail; go_meet; exact ⟨rfl, hr9, ⟨ho9.os, ho9.tape, ho9.output, ho9.size, ho9.block⟩⟩)
              obtain ⟨rfl, hr9, ho9⟩ := hcut
              go_wp2_with fail
              go_roundw
              case rel => exact ⟨j + 1, by omega, by go_num, hr9, ho8.trans ho9 fun _ _ h => h⟩
              case measure => simp [intOf]; omega
            · have k1' : (tk == 1) = false := by simpa using k1
              have hit : Bts.itemBits (tk, tx, tn, ti) = Bts.int ti := by unfold Bts.itemBits; rw [if_neg k0, if_neg k1]
              have hget : Bts.intR b (Bts.rAt ts j) = (ti, Bts.rAt ts (j + 1)) := by
                unfold Bts.intR
                rw [Bts.numR_num rfl (x := Bts.zig ti) (t := tl) (by rw [Htl.out, hit]; rfl), Hsu.out, hit, Bts.unzig_zig ti q4]; rfl
              have Hget := Lib.hid hget
              clear hit k0 k1 hget
              go_upto_region 23 with fail
              go_cut [66] (fun s wx => s = .bool false ∧ RdAt (fun q => w6.heap.size ≤ q ∧ q < k) wx k b (Bts.rAt ts (j + 1)) ∧ Only (· = k) w8 wx)
              case first =>
                go_region_held3 (fun W => W.cell? ⟨s0, 3, none⟩ = some (.int .i64 ti))
                  (first | go_keep | exact (cell_keep (ho9.block s0 hs08 (by omega))).trans z3)
                  ((first
                    | (go_at_call 29; refine (bits_RInt k b _ _ (hr8.keep (Below.refl _ _).drew) (by omega)).mono ?_; rw [Hget.out]; rintro e w9 ⟨rfl, hr9, ho9⟩)))
                all_goals (go_wp2_with fail; go_meet; exact ⟨rfl, hr9, ⟨ho9.os, ho9.tape, ho9.output, ho9.size, ho9.block⟩⟩)
              obtain ⟨rfl, hr9, ho9⟩ := hcut
              go_wp2_with fail
              go_roundw
              case rel => exact ⟨j + 1, by omega, by go_num, hr9, ho8.trans ho9 fun _ _ h => h⟩
              case measure => simp [intOf]; omega
        · obtain rfl : j = ts.length := by omega
          have hfin : Bts.rest b (Bts.rAt ts ts.length) = Bts.zeros (8 * ((L.length + 7) / 8) - L.length) := by
            unfold Bts.rest Bts.rAt
            rw [if_pos rfl, List.take_length, Hbits.out, ← HL.out, List.drop_append_of_le_length (Nat.le_refl _), List.drop_length, List.nil_append]
          have hend : Bts.endR b (Bts.rAt ts ts.length) = 0 := by
            unfold Bts.endR
            rw [if_neg (by simp [Bts.rAt]), hfin, Bts.zeros_len, if_neg]
            intro h
            rcases h with h | h
            · omega
            · simp [Bts.zeros] at h
          have hlf : Bts.left b (Bts.rAt ts ts.length) < 8 := by rw [← Bts.rest_len, hfin, Bts.zeros_len]; omega
          obtain ⟨lf, hlf2⟩ : ∃ x, x = Bts.left b (Bts.rAt ts ts.length) := ⟨_, rfl⟩
          rw [← hlf2] at hlf
          have hlfi : (lf : Int) < 8 := by omega
          have Hend := Lib.hid hend
          have Hlf2 := Lib.hid hlf2
          have hbad : (Bts.rAt ts ts.length).bad = 0 := rfl
          have Hbad := Lib.hid hbad
          clear hfin hend hlf2 hbad
          go_wp2_with fail
          refine (bits_Err k b _ _ hrj).mono ?_
          rw [Hbad.out]
          rintro e w9 ⟨rfl, rfl⟩
          go_wp2_with fail
          refine (bits_End k b _ _ hrj (by omega)).mono ?_
          rw [Hend.out]
          rintro e w9 ⟨rfl, hb9⟩
          have hr9 := hrj.keep hb9
          have hbw9 := hbwj.trans (hb9.mono hbwj.size)
          go_wp2_with fail
          refine (bits_Left k b _ _ hr9 (by omega)).mono ?_
          rw [← Hlf2.out]
          rintro e w10 ⟨rfl, hb10⟩
          go_wp2_with fail
          go_ret
          exact ⟨rfl, hbw9.trans (hb10.mono hbw9.size)⟩
end Go.Proofs.Ytpcelfbekcpjmaa


/-
  What book.Encode computes: the bytes.
-/
import Derived.Test.YtennjoegjghlaaaBookEnc
namespace Go.Proofs.Ytennjoegjghlaaa
open Go.RowKit
set_option linter.unusedVariables false

namespace Bk
def encErr (l : List Ev) : Int := if 400 < l.length then 4 else if ∀ e ∈ l, evOk e then 0 else 20
def encOut (l : List Ev) : Bts.Bytes := if encErr l = 0 then Bts.pack (esBits l) else []
end Bk

set_option maxRecDepth 4096 in
set_option maxHeartbeats 1600000 in
theorem book_Encode (B : Nat) (a : Option Addr) (n c : Nat) (l : List Bk.Ev) (w : World) (hB : w.heap.size = B) (hr : RS EEv w a n l) (hl : n ≤ 1000000) (hops : ∀ e ∈ l, e.2.2.length ≤ 1000) :
    Calls Try.prog 13 #[.slice a n c] w fun e w' => ∃ v, e = .returned (.tuple #[v, .int .i64 (Bk.encErr l)]) ∧ Own EU8 5 B w' v (Bk.encOut l) ∧ Below B w w' := by
  obtain ⟨rfl, hs⟩ := hr
  obtain ⟨er, her⟩ : ∃ x, x = Bk.encErr l := ⟨_, rfl⟩
  obtain ⟨out, hout⟩ : ∃ x, x = Bk.encOut l := ⟨_, rfl⟩
  rw [← her, ← hout]
  have Her := Lib.hid her
  have Hout := Lib.hid hout
  have HB := Lib.hid hB
  clear her hout
  by_cases h4 : 400 < l.length
  · have h4' : 400 < (l.length : Int) := by omega
    have he : er = 4 := by rw [Her.out]; unfold Bk.encErr; rw [if_pos h4]
    have ho : out = [] := by rw [Hout.out]; unfold Bk.encOut; rw [← Her.out, he]; rfl
    subst he
    subst ho
    clear h4 hB
    go_enter Try.func13, Try.ntmps13
    go_wp2_with fail
    refine bodyPost_ret (v := .tuple #[.slice none 0 0, .int .i64 4]) (by simp [results, Try.results13, go_sem]) rfl ?_
    exact ⟨_, rfl, Own.nil _ _ _ _, Below.refl _ _⟩
  · have h4' : ¬ (400 < (l.length : Int)) := by omega
    have hl4 : l.length ≤ 400 := by omega
    have hfail : ∀ e ∈ l, ¬ Bk.evOk e → er = 20 ∧ out = [] := fun e he hn => by
      have h20 : er = 20 := by rw [Her.out]; unfold Bk.encErr; rw [if_neg h4, if_neg fun h => hn (h e he)]
      exact ⟨h20, by rw [Hout.out]; unfold Bk.encOut; rw [← Her.out, h20]; rfl⟩
    have hfine : (∀ e ∈ l, Bk.evOk e) → er = 0 ∧ out = Bts.pack (Bk.esBits l) := fun h => by
      have h0 : er = 0 := by rw [Her.out]; unfold Bk.encErr; rw [if_neg h4, if_pos h]
      exact ⟨h0, by rw [Hout.out]; unfold Bk.encOut; rw [← Her.out, h0]; rfl⟩
    have Hfail := Lib.hid hfail
    have Hfine := Lib.hid hfine
    have Hops := Lib.hid hops
    clear h4 hfail hfine hops
    obtain ⟨w1, hw1⟩ : ∃ x, x = w.alloc (.cells #[.slice none 0 0, .int .i64 0] 72) := ⟨_, rfl⟩
    have hb1 : Below B w w1 := by subst hw1; subst hB; exact (Below.refl _ _).alloc (Nat.le_refl _) _
    have ha1 : WrAt w1 B (.slice none 0 0) [] := by subst hw1; subst hB; exact wr_new w
    go_enter Try.func13, Try.ntmps13
    go_upto_region 4 with fail
    rw [← hw1]
    clear hw1 hB
    go_wp2_with fail
    refine (bits_Num B _ [] (BitVec.ofInt 64 l.length) _ ha1 (by decide)).mono ?_
    rintro e w2 ⟨rfl, v2, ha2, ht2⟩
    rw [List.nil_append] at ha2
    have hB1 : B ≤ w1.heap.size := Nat.le_of_lt ha1.lt
    have hb2 := hb1.trans (ht2.below hB1 (Nat.le_refl _) (by simp [Value.ownBlock]))
    clear ha1 ht2 hb1 hB1
    obtain ⟨N, hN⟩ : ∃ N, N = Bts.num (BitVec.ofInt 64 l.length) := ⟨_, rfl⟩
    have hNl : N.length ≤ 129 := by rw [hN]; obtain ⟨z, h, hz⟩ := Bts.num_len (BitVec.ofInt 64 l.length); omega
    rw [← hN] at ha2
    have HN := Lib.hid hN
    clear hN
    go_wp2_with fail
    go_loopw [21] (fun i wr => ∃ (j : Nat) (v : Value), j ≤ l.length ∧ i = .int .i64 j ∧ (∀ e ∈ l.take j, Bk.evOk e) ∧ WrAt wr B v (N ++ Bk.evsBits (l.take j)) ∧ Below B w wr) (fun i _ => l.length - (intOf i).toNat)
    case atStart => exact ⟨0, v2, Nat.zero_le _, rfl, by simp, by simpa [Bk.evsBits] using ha2, hb2⟩
    case round =>
      obtain ⟨j, v, hj, rfl, hall, ha, hb⟩ := hrel
      clear ha2 hb2
      by_cases hlt : j < l.length
      · have hji : (j : Int) < (l.length : Int) := by omega
        have hlen : (N ++ Bk.evsBits (l.take j)).length ≤ 1000000 := by
          have := Bk.evsBits_len (l.take j) fun e he => (hall e he).1.2.2.2.2
          rw [List.length_append]
          rw [List.length_take] at this
          have h2 : min j l.length * 1618 ≤ 400 * 1618 := Nat.mul_le_mul_right _ (by omega)
          omega
        have hsn := Bk.evsBits_snoc l j hlt
        have hol := Hops.out l[j] (List.getElem_mem hlt)
        have hmem : l[j] ∈ l := List.getElem_mem hlt
        have htk : l.take (j + 1) = l.take j ++ [l[j]] := (List.take_append_getElem hlt).symm
        obtain ⟨b1, o1, a', c', rfl, p1, p2, p3, hc', hm', hs', r1, r2⟩ := sl_ev hs j hlt
        have kw : ∀ {o : Nat} {u : Value}, w.cell? ⟨b1, o, none⟩ = some u → wr.cell? ⟨b1, o, none⟩ = some u := fun h => cell_thru h (by rw [HB.out]; exact hb)
        have q1 := kw p1
        have q2 := kw p2
        have q3 := kw p3
        clear kw p1 p2 p3
        obtain ⟨x, hx⟩ : ∃ x, x = l[j] := ⟨_, rfl⟩
        rw [← hx] at q1 q2 q3 hs' hol hc' r1 r2 htk hsn hmem
        clear hx
        obtain ⟨x1, x2, x3⟩ := x
        dsimp only at q1 q2 q3 hs' hol hc' r1 r2
        have hBr : B ≤ wr.heap.size := Nat.le_of_lt ha.lt
        obtain ⟨w4, hw4⟩ : ∃ x, x = wr.alloc (.cells #[.int .i64 x1, .int .i64 x2, .slice a' x3.length c'] 69) := ⟨_, rfl⟩
        have hb4 : Below wr.heap.size wr w4 := by subst hw4; exact (Below.refl _ _).alloc (Nat.le_refl _) _
        have hh4 : w4.heap[wr.heap.size]? = some (.cells #[.int .i64 x1, .int .i64 x2, .slice a' x3.length c'] 69 (0, 0)) := by subst hw4; exact heap_alloc_new wr _
        obtain ⟨s0, hs0⟩ : ∃ s, s = wr.heap.size := ⟨_, rfl⟩
        rw [← hs0] at hh4
        have z0 : w4.cell? ⟨s0, 0, none⟩ = some (.int .i64 x1) := by simp [World.cell?, hh4]
        have z1 : w4.cell? ⟨s0, 1, none⟩ = some (.int .i64 x2) := by simp [World.cell?, hh4]
        have z2 : w4.cell? ⟨s0, 2, none⟩ = some (.slice a' x3.length c') := by simp [World.cell?, hh4]
        have hbw4 : Below B w w4 := hb.trans (hb4.mono hBr)
        have ha4 := ha.keep hb4
        have hvs : ∀ b, v.ownBlock = some b → b < s0 := fun b hb => by rw [hs0]; exact (ha.own b hb).2
        have hgs : B < s0 := by rw [hs0]; exact ha.lt
        have Hvs := Lib.hid hvs
        have Hsn := Lib.hid hsn
        have Htk := Lib.hid htk
        have Hmem := Lib.hid hmem
        have Hall := Lib.hid hall
        have Hs0 := Lib.hid hs0
        clear hh4 hvs hsn htk hmem hall ha hb
        go_upto_region 8 with fail
        rw [← hw4]
        rw [← hs0]
        clear hw4 hs0 hb4 q1 q2 q3
        go_wp2_with fail
        refine (book_right x1 x2 a' x3.length c' x3 _ ((hs'.below (by decide) (by rw [HB.out]; exact hbw4))) rfl hol).mono ?_
        rintro e w5 ⟨rfl, hb5⟩
        have k0 := cell_thru z0 hb5
        have k1 := cell_thru z1 hb5
        have k2 := cell_thru z2 hb5
        have ha5 := ha4.keep hb5
        have hB4 : B ≤ w4.heap.size := Nat.le_of_lt ha4.lt
        have hbw5 : Below B w w5 := hbw4.trans (hb5.mono hB4)
        have hs5 : s0 < w5.heap.size := cell_lt k0
        clear z0 z1 z2 ha4 hbw4 hb5 hB4
        by_cases hok : Bk.evOk (x1, x2, x3)
        · rw [decide_eq_true hok]
          have Hok := Lib.hid hok
          have hown : ∀ b, v.ownBlock = some b → B ≤ b := fun b hb => by have := (ha5.own b hb).1; omega
          have Hown := Lib.hid hown
          clear hown
          obtain ⟨⟨d1, d2, d3, d4, d5⟩, d6⟩ := hok
          dsimp only at d1 d2 d3 d4 d5 d6
          have hnum : BitVec.ofInt 64 (x1 - 1) <<< 8 ||| BitVec.ofInt 64 (x2 - 1) <<< 4 ||| BitVec.ofNat 64 x3.length = Bk.evNum (x1, x2, x3) := by
            unfold Bk.evNum; rw [BitVec.ofInt_natCast]
          have Hnum := Lib.hid hnum
          clear hnum
          go_wp2_with fail
          rw [Hnum.out]
          refine (bits_Put B v _ (Bk.evNum (x1, x2, x3)) 10 _ ha5 (by decide) (by omega)).mono ?_
          rintro e w6 ⟨rfl, v6, ha6, ht6⟩
          have hbw6 : Below B w w6 := hbw5.trans (ht6.below (Nat.le_of_lt ha5.lt) (Nat.le_refl _) Hown.out)
          have hS0 : ¬ (s0 = B ∨ v.ownBlock = some s0) := fun h => by
            rcases h with h | h
            · omega
            · have := Hvs.out s0 h; omega
          have q2 := (cell_keep (ht6.only.block s0 hs5 hS0)).trans k2
          obtain ⟨L0, hL0⟩ : ∃ L0, L0 = N ++ Bk.evsBits (l.take j) ++ Bts.put (Bk.evNum (x1, x2, x3)) 10 := ⟨_, rfl⟩
          have hL0l : L0.length ≤ 1000010 := by
            rw [hL0, List.length_append]
            have h5 : (Bts.put (Bk.evNum (x1, x2, x3)) 10).length = 10 := by unfold Bts.put; rw [Bts.low_len]; decide
            omega
          rw [← hL0] at ha6
          have HL0 := Lib.hid hL0
          have D6 := Lib.hid d6
          clear k0 k1 k2 ha5 ht6 hS0 hL0 hlen d1 d2 d3 d4 d6 hs5
          go_wp2_with fail
          go_loopw [49] (fun i wr => ∃ (k : Nat) (vv : Value), k ≤ x3.length ∧ i = .int .i64 k ∧ WrAt wr B vv (L0 ++ Bk.opsBits (x3.take k)) ∧ Below B w wr) (fun i _ => x3.length - (intOf i).toNat)
          case atStart => exact ⟨0, v6, Nat.zero_le _, rfl, by simpa [Bk.opsBits] using ha6, hbw6⟩
          case round =>
            clear ha6 hbw6
            obtain ⟨k, vv, hk, rfl, ha, hb⟩ := hrel
            by_cases hlk : k < x3.length
            · have hki : (k : Int) < (x3.length : Int) := by omega
              have hlen : (L0 ++ Bk.opsBits (x3.take k)).length ≤ 1002000 := by
                have h1 := Bk.opsBits_len (x3.take k)
                rw [List.length_take] at h1
                rw [List.length_append]
                have h2 : min k x3.length * 134 ≤ 12 * 134 := Nat.mul_le_mul_right _ (by omega)
                omega
              have hsn := Bk.opsBits_snoc x3 k hlk
              have hok := D6.out x3[k] (List.getElem_mem hlk)
              obtain ⟨b3, o3, rfl, p1, p2, p3, r4, r5, r6⟩ := sl_op hs' k hlk
              have kw : ∀ {o : Nat} {u : Value}, w.cell? ⟨b3, o, none⟩ = some u → wr.cell? ⟨b3, o, none⟩ = some u := fun h => cell_thru h (by rw [HB.out]; exact hb)
              have q1 := kw p1
              have q2 := kw p2
              have q3 := kw p3
              clear kw p1 p2 p3
              obtain ⟨y, hy⟩ : ∃ y, y = x3[k] := ⟨_, rfl⟩
              rw [← hy] at q1 q2 q3 hsn hok r4 r5 r6
              clear hy
              obtain ⟨y1, y2, y3⟩ := y
              dsimp only at q1 q2 q3 r4 r5 r6
              obtain ⟨w8, hw8⟩ : ∃ x, x = wr.alloc (.cells #[.int .i64 y1, .int .i64 y2, .int .i64 y3] 79) := ⟨_, rfl⟩
              have hb8 : Below wr.heap.size wr w8 := by subst hw8; exact (Below.refl _ _).alloc (Nat.le_refl _) _
              have hh8 : w8.heap[wr.heap.size]? = some (.cells #[.int .i64 y1, .int .i64 y2, .int .i64 y3] 79 (0, 0)) := by subst hw8; exact heap_alloc_new wr _
              obtain ⟨s1, hs1⟩ : ∃ s, s = wr.heap.size := ⟨_, rfl⟩
              rw [← hs1] at hh8
              have z0 : w8.cell? ⟨s1, 0, none⟩ = some (.int .i64 y1) := by simp [World.cell?, hh8]
              have z1 : w8.cell? ⟨s1, 1, none⟩ = some (.int .i64 y2) := by simp [World.cell?, hh8]
              have z2 : w8.cell? ⟨s1, 2, none⟩ = some (.int .i64 y3) := by simp [World.cell?, hh8]
              have ha8 := ha.keep hb8
              have hbw8 : Below B w w8 := hb.trans (hb8.mono (Nat.le_of_lt ha.lt))
              have hvs1 : ∀ b, vv.ownBlock = some b → b < s1 := fun b hb => by rw [hs1]; exact (ha.own b hb).2
              have hown1 : ∀ b, vv.ownBlock = some b → B ≤ b := fun b hb => by have := (ha.own b hb).1; omega
              have hBs1 : B < s1 := by rw [hs1]; exact ha.lt
              have hs18 : s1 < w8.heap.size := cell_lt z0
              have Hvs1 := Lib.hid hvs1
              have Hown1 := Lib.hid hown1
              have Hs1 := Lib.hid hs1
              have Hsn1 := Lib.hid hsn
              obtain ⟨g1, g2, g3, g4, g5⟩ := hok
              dsimp only at g1 g2 g3 g4 g5
              have hn1 : BitVec.ofInt 64 (y1 - 1) <<< 4 ||| BitVec.ofInt 64 y2 = Bk.opNum (y1, y2, y3) := rfl
              have Hn1 := Lib.hid hn1
              clear hh8 ha hb hvs1 hown1 hsn hn1
              go_upto_region 14 with fail
              rw [← hw8]
              rw [← hs1]
              clear hw8 hs1 hb8 q1 q2 q3 g2 g3 g4 g5
              have hy1 : -9223372036854775808 ≤ y1 - 1 ∧ y1 - 1 ≤ 9223372036854775807 := by omega
              go_wp2_with fail
              rw [Hn1.out]
              refine (bits_Put B vv _ (Bk.opNum (y1, y2, y3)) 5 _ ha8 (by decide) (by omega)).mono ?_
              rintro e w9 ⟨rfl, v9, ha9, ht9⟩
              have hbw9 : Below B w w9 := hbw8.trans (ht9.below (Nat.le_of_lt ha8.lt) (Nat.le_refl _) Hown1.out)
              have hS1 : ¬ (s1 = B ∨ vv.ownBlock = some s1) := fun h => by
                rcases h with h | h
                · omega
                · have := Hvs1.out s1 h; omega
              have q9 := (cell_keep (ht9.only.block s1 hs18 hS1)).trans z2
              have hl9 : (L0 ++ Bk.opsBits (x3.take k) ++ Bts.put (Bk.opNum (y1, y2, y3)) 5).length ≤ 1003000 := by
                have h5 : (Bts.put (Bk.opNum (y1, y2, y3)) 5).length = 5 := by unfold Bts.put; rw [Bts.low_len]; decide
                rw [List.length_append]; omega
              have hown9 : ∀ b, v9.ownBlock = some b → B ≤ b := fun b hb => by have := (ha9.own b hb).1; omega
              have Hown9 := Lib.hid hown9
              clear z0 z1 z2 ha8 ht9 hS1 hlen hown9
              go_wp2_with fail
              refine (bits_Num B v9 _ (BitVec.ofInt 64 y3) _ ha9 (by omega)).mono ?_
              rintro e w10 ⟨rfl, v10, ha10, ht10⟩
              have hbw10 : Below B w w10 := hbw9.trans (ht10.below (Nat.le_of_lt ha9.lt) (Nat.le_refl _) Hown9.out)
              go_wp2_with fail
              go_roundw
              case rel =>
                refine ⟨k + 1, v10, by omega, by go_num, ?_, hbw10⟩
                rw [Hsn1.out, Bk.opBits, ← List.append_assoc, ← List.append_assoc]
                exact ha10
              case measure => simp [intOf]; omega
            · have hki : ¬ ((k : Int) < (x3.length : Int)) := by omega
              rw [List.take_of_length_le (by omega)] at ha
              have hall' : ∀ e ∈ l.take (j + 1), Bk.evOk e := by
                rw [Htk.out]
                intro e he
                rcases List.mem_append.1 he with he | he
                · exact Hall.out e he
                · rw [List.mem_singleton.1 he]; exact Hok.out
              have Hall' := Lib.hid hall'
              clear hall'
              go_wp2_with fail
              go_roundw
              case rel =>
                refine ⟨j + 1, vv, by omega, by go_num, Hall'.out, ?_, hb⟩
                rw [Hsn.out, Bk.evBits, ← List.append_assoc, ← List.append_assoc, ← HL0.out]
                exact ha
              case measure => simp [intOf]; omega
        · rw [decide_eq_false hok]
          obtain ⟨rfl, rfl⟩ := Hfail.out _ Hmem.out hok
          go_wp2_with fail
          refine bodyPost_ret (v := .tuple #[.slice none 0 0, .int .i64 20]) (by simp [results, Try.results13, go_sem]) rfl ?_
          exact ⟨_, rfl, Own.nil _ _ _ _, hbw5⟩
      · have hji : ¬ ((j : Int) < (l.length : Int)) := by omega
        rw [List.take_of_length_le (by omega)] at hall ha
        obtain ⟨rfl, rfl⟩ := Hfine.out hall
        have hlen : (N ++ Bk.evsBits l).length ≤ 1000000 := by
          have := Bk.evsBits_len l fun e he => (hall e he).1.2.2.2.2
          rw [List.length_append]
          have h2 : l.length * 1618 ≤ 400 * 1618 := Nat.mul_le_mul_right _ (by omega)
          omega
        have hes : N ++ Bk.evsBits l = Bk.esBits l := by rw [HN.out]; rfl
        have Hes := Lib.hid hes
        have hBr : B ≤ wr.heap.size := Nat.le_of_lt ha.lt
        clear hes
        go_wp2_with fail
        refine (bits_Bytes wr.heap.size B v _ _ (by rfl) ha (by omega)).mono ?_
        rintro e w8 ⟨v8, rfl, ho8, hb8⟩
        rw [Hes.out] at ho8
        go_wp2_with fail
        refine bodyPost_ret (v := .tuple #[v8, .int .i64 0]) (by simp [results, Try.results13, go_sem]) rfl ?_
        exact ⟨_, rfl, ho8.base hBr, hb.trans (hb8.mono hBr)⟩
end Go.Proofs.Ytennjoegjghlaaa

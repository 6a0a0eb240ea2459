
/-
  What the document's own encoder of histories computes: the bytes.
-/
import Derived.Test.YtennjoegjghlaaaBookRef
namespace Go.Proofs.Ytennjoegjghlaaa
open Go.RowKit
set_option linter.unusedVariables false

set_option maxRecDepth 100000 in
set_option maxHeartbeats 3200000 in
theorem ref06_Encode (B : Nat) (a : Option Addr) (n c : Nat) (l : List Bk.Ev) (w : World) (hB : w.heap.size = B) (hr : RS EEv w a n l) (hl : n ≤ 1000000) (hops : ∀ e ∈ l, e.2.2.length ≤ 1000) :
    Calls Try.prog 32 #[.slice a n c] w fun e w' => ∃ v, e = .returned (.tuple #[v, .int .i64 (Bk.encErr l)]) ∧ Own EU8 5 B w' v (Bk.encOut l) ∧ Below B w w' := by
  obtain ⟨rfl, hs⟩ := hr
  obtain ⟨er, her⟩ : ∃ x, x = Bk.encErr l := ⟨_, rfl⟩
  obtain ⟨out, hout⟩ : ∃ x, x = Bk.encOut l := ⟨_, rfl⟩
  rw [← her, ← hout]
  have Her := Lib.hid her
  have Hout := Lib.hid hout
  have HB := Lib.hid hB
  clear her hout
  by_cases h4 : 400 < l.length
  · have h4' : 400 < (l.length : Int) := by omega
    have he : er = 4 := by rw [Her.out]; unfold Bk.encErr; rw [if_pos h4]
    have ho : out = [] := by rw [Hout.out]; unfold Bk.encOut; rw [← Her.out, he]; rfl
    subst he
    subst ho
    clear h4 hB
    go_enter Try.func32, Try.ntmps32
    go_wp2_with fail
    refine bodyPost_ret (v := .tuple #[.slice none 0 0, .int .i64 4]) (by simp [results, Try.results32, go_sem]) rfl ?_
    exact ⟨_, rfl, Own.nil _ _ _ _, Below.refl _ _⟩
  · have h4' : ¬ (400 < (l.length : Int)) := by omega
    have hl4 : l.length ≤ 400 := by omega
    have hfail : ∀ e ∈ l, ¬ Bk.evOk e → er = 20 ∧ out = [] := fun e he hn => by
      have h20 : er = 20 := by rw [Her.out]; unfold Bk.encErr; rw [if_neg h4, if_neg fun h => hn (h e he)]
      exact ⟨h20, by rw [Hout.out]; unfold Bk.encOut; rw [← Her.out, h20]; rfl⟩
    have hfine : (∀ e ∈ l, Bk.evOk e) → er = 0 ∧ out = Bts.pack (Bk.esBits l) := fun h => by
      have h0 : er = 0 := by rw [Her.out]; unfold Bk.encErr; rw [if_neg h4, if_pos h]
      exact ⟨h0, by rw [Hout.out]; unfold Bk.encOut; rw [← Her.out, h0]; rfl⟩
    have Hfail := Lib.hid hfail
    have Hfine := Lib.hid hfine
    have Hops := Lib.hid hops
    clear h4 hfail hfine hops
    go_enter Try.func32, Try.ntmps32
    go_wp2_with fail
    go_loopw [13] (fun i wr => ∃ j : Nat, j ≤ l.length ∧ i = .int .i64 j ∧ (∀ e ∈ l.take j, Bk.evOk e) ∧ Below B w wr) (fun i _ => l.length - (intOf i).toNat)
    case atStart => exact ⟨0, Nat.zero_le _, rfl, by simp, Below.refl _ _⟩
    case round =>
      obtain ⟨j, hj, rfl, hall, hb⟩ := hrel
      have hBr : B ≤ wr.heap.size := by have := hb.size; rw [HB.out] at this; exact this
      by_cases hlt : j < l.length
      · have hji : (j : Int) < (l.length : Int) := by omega
        have hol := Hops.out l[j] (List.getElem_mem hlt)
        have hmem : l[j] ∈ l := List.getElem_mem hlt
        have htk : l.take (j + 1) = l.take j ++ [l[j]] := (List.take_append_getElem hlt).symm
        obtain ⟨b1, o1, a', c', rfl, p1, p2, p3, hc', hm', hs', r1, r2⟩ := sl_ev hs j hlt
        have kw : ∀ {o : Nat} {u : Value}, w.cell? ⟨b1, o, none⟩ = some u → wr.cell? ⟨b1, o, none⟩ = some u := fun h => cell_thru h (by rw [HB.out]; exact hb)
        have q1 := kw p1
        have q2 := kw p2
        have q3 := kw p3
        clear kw p1 p2 p3
        obtain ⟨x, hx⟩ : ∃ x, x = l[j] := ⟨_, rfl⟩
        rw [← hx] at q1 q2 q3 hs' hol hc' r1 r2 htk hmem
        clear hx
        obtain ⟨x1, x2, x3⟩ := x
        dsimp only at q1 q2 q3 hs' hol hc' r1 r2
        obtain ⟨w4, hw4⟩ : ∃ x, x = wr.alloc (.cells #[.int .i64 x1, .int .i64 x2, .slice a' x3.length c'] 69) := ⟨_, rfl⟩
        have hb4 : Below wr.heap.size wr w4 := by subst hw4; exact (Below.refl _ _).alloc (Nat.le_refl _) _
        have hh4 : w4.heap[wr.heap.size]? = some (.cells #[.int .i64 x1, .int .i64 x2, .slice a' x3.length c'] 69 (0, 0)) := by subst hw4; exact heap_alloc_new wr _
        obtain ⟨s0, hs0⟩ : ∃ s, s = wr.heap.size := ⟨_, rfl⟩
        rw [← hs0] at hh4
        have z0 : w4.cell? ⟨s0, 0, none⟩ = some (.int .i64 x1) := by simp [World.cell?, hh4]
        have z1 : w4.cell? ⟨s0, 1, none⟩ = some (.int .i64 x2) := by simp [World.cell?, hh4]
        have z2 : w4.cell? ⟨s0, 2, none⟩ = some (.slice a' x3.length c') := by simp [World.cell?, hh4]
        have hbw4 : Below B w w4 := hb.trans (hb4.mono hBr)
        have Htk := Lib.hid htk
        have Hmem := Lib.hid hmem
        have Hall := Lib.hid hall
        clear hh4 htk hmem hall
        go_upto_region 6 with fail
        rw [← hw4]
        rw [← hs0]
        clear hw4 hs0 hb4 q1 q2 q3
        by_cases hd : 1 ≤ x1 ∧ x1 ≤ 4 ∧ 1 ≤ x2 ∧ x2 ≤ 16 ∧ x3.length ≤ 12
        · obtain ⟨d1, d2, d3, d4, d5⟩ := hd
          have e1 : decide (x1 < 1) = false := by simpa using d1
          have e2 : decide (4 < x1) = false := by simpa using d2
          have e3 : decide (x2 < 1) = false := by simpa using d3
          have e4 : decide (16 < x2) = false := by simpa using d4
          have e5 : decide (12 < (x3.length : Int)) = false := by simp; omega
          go_wp2_with fail
          have hw4B : B ≤ w4.heap.size := by have := hbw4.size; rw [HB.out] at this; exact this
          have hnoOp : ∀ o ∈ x3, ¬ Bk.opOk o → ¬ Bk.evOk (x1, x2, x3) := fun o ho hn h => hn (h.2 o ho)
          have HnoOp := Lib.hid hnoOp
          have D := Lib.hid (And.intro d1 (And.intro d2 (And.intro d3 (And.intro d4 d5))))
          clear hnoOp d1 d2 d3 d4 d5 e1 e2 e3 e4 e5
          go_loopw [44] (fun i wr => ∃ k : Nat, k ≤ x3.length ∧ i = .int .i64 k ∧ (∀ o ∈ x3.take k, Bk.opOk o) ∧ Below B w wr) (fun i _ => x3.length - (intOf i).toNat)
          case atStart => exact ⟨0, Nat.zero_le _, rfl, by simp, hbw4⟩
          case round =>
            obtain ⟨k, hk, rfl, hallk, hb⟩ := hrel
            have hBk : B ≤ wr.heap.size := by have := hb.size; rw [HB.out] at this; exact this
            by_cases hlk : k < x3.length
            · have hki : (k : Int) < (x3.length : Int) := by omega
              have hmk : x3[k] ∈ x3 := List.getElem_mem hlk
              have htk : x3.take (k + 1) = x3.take k ++ [x3[k]] := (List.take_append_getElem hlk).symm
              obtain ⟨b3, o3, rfl, p1, p2, p3, r4, r5, r6⟩ := sl_op hs' k hlk
              have kw : ∀ {o : Nat} {u : Value}, w.cell? ⟨b3, o, none⟩ = some u → wr.cell? ⟨b3, o, none⟩ = some u := fun h => cell_thru h (by rw [HB.out]; exact hb)
              have q1 := kw p1
              have q2 := kw p2
              have q3 := kw p3
              clear kw p1 p2 p3
              obtain ⟨y, hy⟩ : ∃ y, y = x3[k] := ⟨_, rfl⟩
              rw [← hy] at q1 q2 q3 hmk htk r4 r5 r6
              clear hy
              obtain ⟨y1, y2, y3⟩ := y
              dsimp only at q1 q2 q3 r4 r5 r6
              have hbF : Below B w (wr.alloc (.cells #[.int .i64 y1, .int .i64 y2, .int .i64 y3] 79)) := hb.alloc hBk _
              have Hallk := Lib.hid hallk
              have Hmk := Lib.hid hmk
              have Htk2 := Lib.hid htk
              clear hallk hmk htk
              by_cases hd : Bk.opOk (y1, y2, y3)
              · have hall' : ∀ o ∈ x3.take (k + 1), Bk.opOk o := by
                  rw [Htk2.out]
                  intro o ho
                  rcases List.mem_append.1 ho with ho | ho
                  · exact Hallk.out o ho
                  · rw [List.mem_singleton.1 ho]; exact hd
                have Hall' := Lib.hid hall'
                obtain ⟨d1, d2, d3, d4, d5⟩ := hd
                dsimp only at d1 d2 d3 d4 d5
                have e2 : decide (y2 < 0) = false := by simpa using d2
                have e3 : decide (15 < y2) = false := by simp; omega
                have e4 : decide (y3 < 0) = false := by simpa using d4
                have e5 : decide (1099511627776 ≤ y3) = false := by simpa using d5
                clear hall' d2 d3 d4 d5
                rcases d1 with rfl | rfl
                · go_wp2_with fail
                  go_roundw
                  case rel => exact ⟨k + 1, by omega, by go_num, Hall'.out, hbF⟩
                  case measure => simp [intOf]; omega
                · go_wp2_with fail
                  go_roundw
                  case rel => exact ⟨k + 1, by omega, by go_num, Hall'.out, hbF⟩
                  case measure => simp [intOf]; omega
              · obtain ⟨rfl, rfl⟩ := Hfail.out _ Hmem.out (HnoOp.out _ Hmk.out hd)
                unfold Bk.opOk at hd
                dsimp only at hd
                by_cases k1 : y1 = 1 ∨ y1 = 2
                · rcases k1 with rfl | rfl
                  · by_cases t2 : y2 < 0
                    · have e2 : decide (y2 < 0) = true := by simpa using t2
                      clear hd
                      go_wp2_with fail
                      refine bodyPost_ret (v := .tuple #[.slice none 0 0, .int .i64 20]) (by simp [results, Try.results32, go_sem]) rfl ?_
                      exact ⟨_, rfl, Own.nil _ _ _ _, hbF⟩
                    have e2 : decide (y2 < 0) = false := by simpa using t2
                    by_cases t3 : 15 < y2
                    · have e3 : decide (15 < y2) = true := by simpa using t3
                      clear hd
                      go_wp2_with fail
                      refine bodyPost_ret (v := .tuple #[.slice none 0 0, .int .i64 20]) (by simp [results, Try.results32, go_sem]) rfl ?_
                      exact ⟨_, rfl, Own.nil _ _ _ _, hbF⟩
                    have e3 : decide (15 < y2) = false := by simpa using t3
                    by_cases t4 : y3 < 0
                    · have e4 : decide (y3 < 0) = true := by simpa using t4
                      clear hd
                      go_wp2_with fail
                      refine bodyPost_ret (v := .tuple #[.slice none 0 0, .int .i64 20]) (by simp [results, Try.results32, go_sem]) rfl ?_
                      exact ⟨_, rfl, Own.nil _ _ _ _, hbF⟩
                    have e4 : decide (y3 < 0) = false := by simpa using t4
                    have e5 : decide (1099511627776 ≤ y3) = true := by simp; omega
                    clear hd
                    go_wp2_with fail
                    refine bodyPost_ret (v := .tuple #[.slice none 0 0, .int .i64 20]) (by simp [results, Try.results32, go_sem]) rfl ?_
                    exact ⟨_, rfl, Own.nil _ _ _ _, hbF⟩
                  · by_cases t2 : y2 < 0
                    · have e2 : decide (y2 < 0) = true := by simpa using t2
                      clear hd
                      go_wp2_with fail
                      refine bodyPost_ret (v := .tuple #[.slice none 0 0, .int .i64 20]) (by simp [results, Try.results32, go_sem]) rfl ?_
                      exact ⟨_, rfl, Own.nil _ _ _ _, hbF⟩
                    have e2 : decide (y2 < 0) = false := by simpa using t2
                    by_cases t3 : 15 < y2
                    · have e3 : decide (15 < y2) = true := by simpa using t3
                      clear hd
                      go_wp2_with fail
                      refine bodyPost_ret (v := .tuple #[.slice none 0 0, .int .i64 20]) (by simp [results, Try.results32, go_sem]) rfl ?_
                      exact ⟨_, rfl, Own.nil _ _ _ _, hbF⟩
                    have e3 : decide (15 < y2) = false := by simpa using t3
                    by_cases t4 : y3 < 0
                    · have e4 : decide (y3 < 0) = true := by simpa using t4
                      clear hd
                      go_wp2_with fail
                      refine bodyPost_ret (v := .tuple #[.slice none 0 0, .int .i64 20]) (by simp [results, Try.results32, go_sem]) rfl ?_
                      exact ⟨_, rfl, Own.nil _ _ _ _, hbF⟩
                    have e4 : decide (y3 < 0) = false := by simpa using t4
                    have e5 : decide (1099511627776 ≤ y3) = true := by simp; omega
                    clear hd
                    go_wp2_with fail
                    refine bodyPost_ret (v := .tuple #[.slice none 0 0, .int .i64 20]) (by simp [results, Try.results32, go_sem]) rfl ?_
                    exact ⟨_, rfl, Own.nil _ _ _ _, hbF⟩
                · have e0 : (y1 != 1) = true := by simp; omega
                  have e1 : (y1 != 2) = true := by simp; omega
                  clear hd k1
                  go_wp2_with fail
                  refine bodyPost_ret (v := .tuple #[.slice none 0 0, .int .i64 20]) (by simp [results, Try.results32, go_sem]) rfl ?_
                  exact ⟨_, rfl, Own.nil _ _ _ _, hbF⟩
            · have hki : ¬ ((k : Int) < (x3.length : Int)) := by omega
              rw [List.take_of_length_le (by omega)] at hallk
              have hall' : ∀ e ∈ l.take (j + 1), Bk.evOk e := by
                rw [Htk.out]
                intro e he
                rcases List.mem_append.1 he with he | he
                · exact Hall.out e he
                · rw [List.mem_singleton.1 he]; exact ⟨D.out, hallk⟩
              have Hall' := Lib.hid hall'
              clear hall' hallk
              go_wp2_with fail
              go_roundw
              case rel => exact ⟨j + 1, by omega, by go_num, Hall'.out, hb⟩
              case measure => simp [intOf]; omega
        · have hno : ¬ Bk.evOk (x1, x2, x3) := fun h => hd ⟨h.1.1, h.1.2.1, h.1.2.2.1, h.1.2.2.2.1, h.1.2.2.2.2⟩
          obtain ⟨rfl, rfl⟩ := Hfail.out _ Hmem.out hno
          have hbF := hbw4
          clear hno
          by_cases t1 : x1 < 1
          · have e1 : decide (x1 < 1) = true := by simpa using t1
            clear hd
            go_wp2_with fail
            refine bodyPost_ret (v := .tuple #[.slice none 0 0, .int .i64 20]) (by simp [results, Try.results32, go_sem]) rfl ?_
            exact ⟨_, rfl, Own.nil _ _ _ _, hbF⟩
          have e1 : decide (x1 < 1) = false := by simpa using t1
          by_cases t2 : 4 < x1
          · have e2 : decide (4 < x1) = true := by simpa using t2
            clear hd
            go_wp2_with fail
            refine bodyPost_ret (v := .tuple #[.slice none 0 0, .int .i64 20]) (by simp [results, Try.results32, go_sem]) rfl ?_
            exact ⟨_, rfl, Own.nil _ _ _ _, hbF⟩
          have e2 : decide (4 < x1) = false := by simpa using t2
          by_cases t3 : x2 < 1
          · have e3 : decide (x2 < 1) = true := by simpa using t3
            clear hd
            go_wp2_with fail
            refine bodyPost_ret (v := .tuple #[.slice none 0 0, .int .i64 20]) (by simp [results, Try.results32, go_sem]) rfl ?_
            exact ⟨_, rfl, Own.nil _ _ _ _, hbF⟩
          have e3 : decide (x2 < 1) = false := by simpa using t3
          by_cases t4 : 16 < x2
          · have e4 : decide (16 < x2) = true := by simpa using t4
            clear hd
            go_wp2_with fail
            refine bodyPost_ret (v := .tuple #[.slice none 0 0, .int .i64 20]) (by simp [results, Try.results32, go_sem]) rfl ?_
            exact ⟨_, rfl, Own.nil _ _ _ _, hbF⟩
          have e4 : decide (16 < x2) = false := by simpa using t4
          have e5 : decide (12 < (x3.length : Int)) = true := by simp; omega
          clear hd
          go_wp2_with fail
          refine bodyPost_ret (v := .tuple #[.slice none 0 0, .int .i64 20]) (by simp [results, Try.results32, go_sem]) rfl ?_
          exact ⟨_, rfl, Own.nil _ _ _ _, hbF⟩
      · have hji : ¬ ((j : Int) < (l.length : Int)) := by omega
        rw [List.take_of_length_le (by omega)] at hall
        obtain ⟨rfl, rfl⟩ := Hfine.out hall
        have hok : Bk.esOk l := ⟨hl4, hall⟩
        clear hall
        go_wp2_with fail
        refine (ref06_Bits wr.heap.size a l.length c l _ (by rfl) ⟨rfl, hs.below (by decide) (by rw [HB.out]; exact hb)⟩ hok).mono ?_
        rintro e w8 ⟨v8, rfl, ho8, hb8⟩
        obtain ⟨nb, hnb⟩ : ∃ z, z = (Bts.asB (Bk.esBits l)).length := ⟨_, rfl⟩
        have hnbl : nb ≤ 1000000 := by
          have := Bk.evsBits_len l fun e he => (hok.2 e he).1.2.2.2.2
          have h2 : l.length * 1618 ≤ 400 * 1618 := Nat.mul_le_mul_right _ (by omega)
          obtain ⟨z, h, hz⟩ := Bts.num_len (BitVec.ofInt 64 l.length)
          rw [hnb, Bts.asB_len, Bk.esBits, List.length_append]
          omega
        obtain ⟨a8, c8, rfl, hc8, hm8, hr8, _⟩ := ho8.shape nb hnb
        have hbw8 := hb.trans (hb8.mono hBr)
        have hB8 : B ≤ w8.heap.size := by have := hbw8.size; rw [HB.out] at this; exact this
        clear hnb ho8 hb8
        go_wp2_with fail
        refine (ref_Bytes a8 nb c8 (Bk.esBits l) w8.heap.size _ (by rfl) hr8 (by omega)).mono ?_
        rintro e w9 ⟨v9, rfl, ho9, hb9⟩
        go_wp2_with fail
        refine bodyPost_ret (v := .tuple #[v9, .int .i64 0]) (by simp [results, Try.results32, go_sem]) rfl ?_
        exact ⟨_, rfl, ho9.base hB8, hbw8.trans (hb9.mono hB8)⟩
end Go.Proofs.Ytennjoegjghlaaa

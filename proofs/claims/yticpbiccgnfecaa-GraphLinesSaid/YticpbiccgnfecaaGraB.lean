
/-
  The reference's table of arcs, and its look at two lists; how many nodes count.
-/
import Derived.Test.YticpbiccgnfecaaGraA
namespace Go.Proofs.Yticpbiccgnfecaa
open Go.RowKit
set_option linter.unusedVariables false

namespace Gr
theorem T_nil (n : Nat) (u v : Nat) : T n [] u v = false := by simp [T]
theorem T_snoc (n : Nat) (l : Arcs) (p : Int × Int) (u v : Nat) : T n (l ++ [p]) u v = (T n l u v || decide (u < n ∧ v < n ∧ p.1 = u ∧ p.2 = v)) := by
  rw [Bool.eq_iff_iff, Bool.or_eq_true, decide_eq_true_eq, T_iff, T_iff]
  obtain ⟨p1, p2⟩ := p
  simp only [List.mem_append, List.mem_cons, Prod.mk.injEq, List.not_mem_nil, or_false]
  constructor
  · rintro ⟨h1, h2, h | ⟨h3, h4⟩⟩
    · exact .inl ⟨h1, h2, h⟩
    · exact .inr ⟨h1, h2, h3.symm, h4.symm⟩
  · rintro (⟨h1, h2, h⟩ | ⟨h1, h2, h3, h4⟩)
    · exact ⟨h1, h2, .inl h⟩
    · exact ⟨h1, h2, .inr ⟨h3.symm, h4.symm⟩⟩
end Gr

theorem graph_size (n : Int) (w : World) : Calls Try.prog 25 #[.int .i64 n] w fun e w' => e = .returned (.int .i64 (min (max n 0) 400)) ∧ w = w' := by
  by_cases h0 : n < 0
  · go_enter Try.func25, Try.ntmps25
    go_wp2_with fail
    go_ret
    exact ⟨congrArg (fun z => Ending.returned (Value.int .i64 z)) (by omega), rfl⟩
  · by_cases h1 : 400 < n
    · go_enter Try.func25, Try.ntmps25
      go_wp2_with fail
      go_ret
      exact ⟨congrArg (fun z => Ending.returned (Value.int .i64 z)) (by omega), rfl⟩
    · go_enter Try.func25, Try.ntmps25
      go_wp2_with fail
      go_ret
      exact ⟨congrArg (fun z => Ending.returned (Value.int .i64 z)) (by omega), rfl⟩

set_option maxRecDepth 4096 in
set_option maxHeartbeats 1600000 in
theorem ref07_Table (B n : Nat) (a : Option Addr) (m c : Nat) (l : List (Int × Int)) (w : World) (hB : w.heap.size = B) (hr : RS EArc w a m l) (hn : n ≤ 100000) (hl : m ≤ 100000) :
    Calls Try.prog 14 #[.int .i64 n, .slice a m c] w fun e w' => e = .returned (.slice (some ⟨B, 0, none⟩) n n) ∧ (∃ rows cp, Mtx 33 4 w' B n n n rows cp (Gr.T n l)) ∧ Below B w w' := by
  subst hB
  obtain ⟨rfl, hs⟩ := hr
  have hgr := Mtx.made (ts := 33) (tb := 4) w n n (fun _ => 0) (fun _ => 0) (fun _ _ => false)
  have hb0 : Below w.heap.size w (w.alloc (.cells (madeCells #[.slice none 0 0] n) 33)) := alloc_below w _
  obtain ⟨w1, hw1⟩ : ∃ x, x = w.alloc (.cells (madeCells #[.slice none 0 0] n) 33) := ⟨_, rfl⟩
  have hex1 := hw1.symm
  have hn0 : 0 ≤ (n : Int) := by omega
  have hn1 : (n : Int) ≤ 100000 := by omega
  rw [← hw1] at hgr hb0
  obtain ⟨B, hB⟩ : ∃ B, B = w.heap.size := ⟨_, rfl⟩
  rw [← hB] at hgr hb0
  have HB := Lib.hid hB
  rw [← hB]
  clear hw1
  have hmk := run_make_row' (P := Try.prog) 29 33 (.slice none 0 0) 24 Try.underlying29 (by kernel_rfl) rfl .i64 .i64 n (by omega) (by omega)
  have hmk2 := run_make_row' (P := Try.prog) 33 4 (.bool false) 1 Try.underlying33 (by kernel_rfl) rfl .i64 .i64 n (by omega) (by omega)
  go_enter Try.func14, Try.ntmps14
  go_upto_region 2 with fail
  rw [← hB]
  clear hex1 hmk hB
  go_wp2_with fail
  go_loopw [13] (fun i wr => ∃ k : Nat, k ≤ n ∧ i = .int .i64 k ∧ (∃ rows cp, Mtx 33 4 wr B n n k rows cp (fun _ _ => false)) ∧ Below B w wr) (fun i _ => n - (intOf i).toNat)
  case atStart => exact ⟨0, Nat.zero_le _, rfl, ⟨_, _, hgr⟩, hb0⟩
  case round =>
    clear hgr hb0
    obtain ⟨k, hk, rfl, ⟨rows, cp, hM⟩, hb⟩ := hrel
    by_cases hlt : k < n
    · have hki : (k : Int) < (n : Int) := by omega
      have hk0 : (0 : Int) ≤ (k : Int) := by omega
      have hgw := hM.vec.lt
      obtain ⟨w5, hw5⟩ : ∃ x, x = wr.alloc (.cells (madeCells #[.bool false] n) 4) := ⟨_, rfl⟩
      have hb5 : Below wr.heap.size wr w5 := by subst hw5; exact alloc_below wr _
      have hv5 : Vec w5 wr.heap.size 4 n (fun _ => .bool false) := by subst hw5; exact Vec.made wr _ _ n
      have hM5 := (hM.push hlt hb5 (Nat.le_refl _) (c := n) (q := fun _ => false) hv5 ⟨Nat.le_refl _, by unfold maxLen; omega⟩).congr (f' := fun _ _ => false) fun i j _ _ => by split <;> rfl
      have hx2 : w5.cell? ⟨B, k, none⟩ = some (.slice none 0 0) := by
        have := (hM.vec.below hb5).cell hlt
        rw [if_neg (by omega)] at this; exact this
      have hxf : w5.frozen? ⟨B, k, none⟩ = false := (hM.vec.below hb5).free k
      have hbn : Below B w (w5.setCell ⟨B, k, none⟩ (.slice (some ⟨wr.heap.size, 0, none⟩) n n)) := (hb.trans (hb5.mono (by omega))).setCell (Nat.le_refl _) _
      have HM5 := Lib.hid hM5
      have Hbn := Lib.hid hbn
      have hw5' := hw5.symm
      clear hM hb hb5 hv5 hM5 hbn hw5
      go_wp2_with fail
      go_roundw
      case rel => exact ⟨k + 1, by omega, by go_num, ⟨_, _, HM5.out⟩, Hbn.out⟩
      case measure => simp [intOf]; omega
    · have hki : ¬ ((k : Int) < (n : Int)) := by omega
      obtain rfl : k = n := by omega
      clear hlt hk hmk2
      have HM := Lib.hid hM
      have Hb := Lib.hid hb
      clear hM hb
      go_wp2_with fail
      go_loopw [24] (fun i w2 => ∃ j : Nat, j ≤ l.length ∧ i = .int .i64 j ∧ (∃ rows cp, Mtx 33 4 w2 B k k k rows cp (Gr.T k (l.take j))) ∧ Below B w w2) (fun i _ => l.length - (intOf i).toNat)
      case atStart => exact ⟨0, Nat.zero_le _, rfl, ⟨_, _, HM.out.congr fun i j _ _ => by rw [List.take_zero, Gr.T_nil]⟩, Hb.out⟩
      case round =>
        clear HM Hb hki
        clear rows cp
        obtain ⟨j, hj, rfl, ⟨rows, cp, hM⟩, hb⟩ := hrel
        rename_i wr0 _ _ _ wr _
        have hsr : Sl EArc (fun _ => True) wr a l := hs.below (by decide) (by rw [← HB.out]; exact hb)
        by_cases hlt : j < l.length
        · have hki : (j : Int) < (l.length : Int) := by omega
          obtain ⟨b1, o1, rfl, p1, p2, r1, r2⟩ := sl_arc hsr j hlt
          have htk : l.take (j + 1) = l.take j ++ [l[j]] := (List.take_append_getElem hlt).symm
          obtain ⟨x, hx⟩ : ∃ x, x = l[j] := ⟨_, rfl⟩
          rw [← hx] at p1 p2 r1 r2 htk
          clear hx
          obtain ⟨x1, x2⟩ := x
          dsimp only at p1 p2 r1 r2
          obtain ⟨w4, hw4⟩ : ∃ x, x = wr.alloc (.cells #[.int .i64 x1, .int .i64 x2] 27) := ⟨_, rfl⟩
          have hb4 : Below wr.heap.size wr w4 := by subst hw4; exact alloc_below wr _
          have hh4 : w4.heap[wr.heap.size]? = some (.cells #[.int .i64 x1, .int .i64 x2] 27 (0, 0)) := by subst hw4; exact heap_alloc_new wr _
          have hM4 := hM.below hb4
          have hgw := hM.vec.lt
          have hbw4 : Below B w w4 := hb.trans (hb4.mono (by omega))
          obtain ⟨s0, hs0⟩ : ∃ s, s = wr.heap.size := ⟨_, rfl⟩
          rw [← hs0] at hh4 hgw
          have z0 : w4.cell? ⟨s0, 0, none⟩ = some (.int .i64 x1) := by simp [World.cell?, hh4]
          have z1 : w4.cell? ⟨s0, 1, none⟩ = some (.int .i64 x2) := by simp [World.cell?, hh4]
          have hT : ∀ u v, Gr.T k (l.take (j + 1)) u v = (Gr.T k (l.take j) u v || decide (u < k ∧ v < k ∧ x1 = u ∧ x2 = v)) := fun u v => by rw [htk, Gr.T_snoc]
          have HT := Lib.hid hT
          have HM4 := Lib.hid hM4
          clear hh4 htk hM hM4 hb hsr hT
          go_upto_region 10 with fail
          rw [← hw4]
          rw [← hs0]
          clear hw4 hs0 hb4 p1 p2
          by_cases hall : 0 ≤ x1 ∧ x1 < (k : Int) ∧ 0 ≤ x2 ∧ x2 < (k : Int)
          · obtain ⟨d1, d2, d3, d4⟩ := hall
            obtain ⟨u, rfl⟩ : ∃ u : Nat, x1 = (u : Int) := ⟨x1.toNat, by omega⟩
            obtain ⟨v, rfl⟩ : ∃ v : Nat, x2 = (v : Int) := ⟨x2.toNat, by omega⟩
            have hu : u < k := by omega
            have hv : v < k := by omega
            have y2 := HM4.out.cell hu
            have y3 := HM4.out.at hu hv
            have yf := (HM4.out.row u hu).free v
            have hMn := (HM4.out.put (j := v) hu true).congr (f' := Gr.T k (l.take (j + 1))) fun x y _ _ => by
              rw [HT.out]; unfold updB
              by_cases e : x = u ∧ y = v
              · obtain ⟨rfl, rfl⟩ := e; rw [if_pos ⟨rfl, rfl⟩]; simp [hu, hv]
              · rw [if_neg e]
                have : decide (x < k ∧ y < k ∧ (u : Int) = x ∧ (v : Int) = y) = false := decide_eq_false (by rintro ⟨_, _, h3, h4⟩; exact e ⟨by omega, by omega⟩)
                rw [this, Bool.or_false]
            have hfar := HM4.out.far u hu
            have hcap := HM4.out.cap u hu
            have HMn := Lib.hid hMn
            have hbn : Below B w (w4.setCell ⟨rows u, v, none⟩ (.bool true)) := hbw4.setCell (by show B ≤ rows u; omega) _
            have Hbn := Lib.hid hbn
            clear hMn hbn
            obtain ⟨ru, hru⟩ : ∃ x, x = rows u := ⟨_, rfl⟩
            obtain ⟨cu, hcu⟩ : ∃ x, x = cp u := ⟨_, rfl⟩
            rw [← hru] at HMn Hbn y2 y3 yf hfar
            rw [← hcu] at hcap y2
            obtain ⟨hc1, hc2⟩ := hcap
            clear hru hcu
            go_upto_region 11 with fail
            go_region
            all_goals
              go_wp2_with fail
              go_roundw
              case rel => exact ⟨j + 1, by omega, by go_num, ⟨_, _, HMn.out.keep fun _ _ _ => rfl⟩, Hbn.out.drew⟩
              case measure => simp [intOf]; omega
          · have hnew : Mtx 33 4 w4 B k k k rows cp (Gr.T k (l.take (j + 1))) := HM4.out.congr fun x y hx hy => by
              rw [HT.out]
              have : decide (x < k ∧ y < k ∧ x1 = (x : Int) ∧ x2 = (y : Int)) = false := decide_eq_false (by rintro ⟨h1, h2, h3, h4⟩; exact hall ⟨by omega, by omega, by omega, by omega⟩)
              rw [this, Bool.or_false]
            have Hnew := Lib.hid hnew
            clear hnew
            by_cases c0 : x1 < 0
            · clear hall
              go_wp2_with fail
              go_roundw
              case rel => exact ⟨j + 1, by omega, by go_num, ⟨_, _, Hnew.out⟩, hbw4⟩
              case measure => simp [intOf]; omega
            by_cases c1 : (k : Int) ≤ x1
            · clear hall
              go_wp2_with fail
              go_roundw
              case rel => exact ⟨j + 1, by omega, by go_num, ⟨_, _, Hnew.out⟩, hbw4⟩
              case measure => simp [intOf]; omega
            by_cases c2 : x2 < 0
            · clear hall
              go_wp2_with fail
              go_roundw
              case rel => exact ⟨j + 1, by omega, by go_num, ⟨_, _, Hnew.out⟩, hbw4⟩
              case measure => simp [intOf]; omega
            have c3 : (k : Int) ≤ x2 := by
              rcases Int.lt_or_le x2 (k : Int) with h | h
              · exact absurd ⟨by omega, by omega, by omega, h⟩ hall
              · exact h
            clear hall
            go_wp2_with fail
            go_roundw
            case rel => exact ⟨j + 1, by omega, by go_num, ⟨_, _, Hnew.out⟩, hbw4⟩
            case measure => simp [intOf]; omega
        · have hki : ¬ ((j : Int) < (l.length : Int)) := by omega
          rw [List.take_of_length_le (by omega)] at hM
          go_wp2_with fail
          go_ret
          exact ⟨rfl, ⟨rows, cp, hM⟩, hb⟩

/-- two lists are the same -/
def sameB (l r : List Int) : Bool := decide (l = r)
set_option maxHeartbeats 400000 in
theorem ref07_Same (a1 : Option Addr) (n1 c1 : Nat) (l : List Int) (a2 : Option Addr) (n2 c2 : Nat) (r : List Int) (w : World) (h1 : RS EInt w a1 n1 l) (h2 : RS EInt w a2 n2 r) (hl : n1 ≤ 1000000) (hl2 : n2 ≤ 1000000) :
    Calls Try.prog 20 #[.slice a1 n1 c1, .slice a2 n2 c2] w fun e w' => e = .returned (.bool (sameB l r)) ∧ ∃ q, w' = w.drewN q := by
  obtain ⟨rfl, hs1⟩ := h1
  obtain ⟨rfl, hs2⟩ := h2
  obtain ⟨res, hres⟩ : ∃ x, x = sameB l r := ⟨_, rfl⟩
  rw [← hres]
  have Hres := Lib.hid hres
  clear hres
  by_cases hne : l.length = r.length
  · have Hne := Lib.hid hne
    rw [hne] at hl ⊢
    have hs1' := Lib.hid hs1
    clear hne hs1
    go_enter Try.func20, Try.ntmps20
    go_wp2_with fail
    go_loopw [13] (fun i wr => ∃ k : Nat, k ≤ r.length ∧ i = .int .i64 k ∧ RowKit.Hid (l.take k = r.take k) ∧ ∃ q, wr = w.drewN q) (fun i _ => r.length - (intOf i).toNat)
    case atStart => exact ⟨0, Nat.zero_le _, rfl, Lib.hid (by simp), 0, rfl⟩
    case round =>
      obtain ⟨k, hk, rfl, heq, q, rfl⟩ := hrel
      by_cases hlt : k < r.length
      · have hki : (k : Int) < (r.length : Int) := by omega
        have hk0 : (0 : Int) ≤ (k : Int) := by omega
        have hlt1 : k < l.length := by rw [Hne.out]; exact hlt
        obtain ⟨b1, o1, rfl, p1, _, _⟩ := SlI.at hs1'.out k hlt1
        obtain ⟨b2, o2, rfl, p2, _, _⟩ := SlI.at hs2 k hlt
        have t1 : l.take (k + 1) = l.take k ++ [l[k]] := (List.take_append_getElem hlt1).symm
        have t2 : r.take (k + 1) = r.take k ++ [r[k]] := (List.take_append_getElem hlt).symm
        have T1 := Lib.hid t1
        have T2 := Lib.hid t2
        clear t1 t2
        have hxl : l[k]? = some l[k] := List.getElem?_eq_getElem hlt1
        have hxr : r[k]? = some r[k] := List.getElem?_eq_getElem hlt
        obtain ⟨x, hx⟩ : ∃ x, x = l[k] := ⟨_, rfl⟩
        obtain ⟨y, hy⟩ : ∃ y, y = r[k] := ⟨_, rfl⟩
        rw [← hx] at p1 T1 hxl
        rw [← hy] at p2 T2 hxr
        have Hxl := Lib.hid hxl
        have Hxr := Lib.hid hxr
        clear hx hy hxl hxr
        by_cases hxy : x = y
        · subst hxy
          go_upto_region 6 with fail
          go_quiet (fail)
          go_wp2_with fail
          go_roundw
          case rel => exact ⟨k + 1, by omega, by go_num, Lib.hid (by rw [T1.out, T2.out, heq.out]), _, rfl⟩
          case measure => simp [intOf]; omega
        · have hxy' : (x != y) = true := by simpa using hxy
          have : res = false := by
            rw [Hres.out]
            refine decide_eq_false fun e => hxy ?_
            have h1 := Hxl.out
            rw [e, Hxr.out] at h1
            injection h1 with h1; exact h1.symm
          subst this
          go_upto_region 6 with fail
          go_quiet (fail)
          go_wp2_with fail
          go_ret
          exact ⟨rfl, _, World.drewN_drewN _ _ _⟩
      · have hki : ¬ ((k : Int) < (r.length : Int)) := by omega
        have : res = true := by
          rw [Hres.out]
          refine decide_eq_true ?_
          have := heq.out
          rw [List.take_of_length_le (by rw [Hne.out]; omega), List.take_of_length_le (by omega)] at this
          exact this
        subst this
        go_wp2_with fail
        go_ret
        exact ⟨rfl, _, rfl⟩
  · have hne' : ((l.length : Int) != (r.length : Int)) = true := by
      rw [bne_iff_ne]; omega
    have : res = false := by
      rw [Hres.out]
      exact decide_eq_false fun e => hne (by rw [e])
    subst this
    go_enter Try.func20, Try.ntmps20
    go_wp2_with fail
    go_ret
    exact ⟨rfl, 0, rfl⟩
end Go.Proofs.Yticpbiccgnfecaa

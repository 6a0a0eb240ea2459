
/-
  How the document's code compares and copies events.
-/
import Derived.Test.YtennjoegjghlaaaHist
import Derived.Deep.CutBlock
namespace Go.Proofs.Ytennjoegjghlaaa
open Go.RowKit
set_option linter.unusedVariables false

theorem below_drewM {B : Nat} {w w' : World} (h : Below B w w') : ∀ n, Below B w (w'.drewN n)
  | 0 => h
  | n + 1 => (below_drewM h n).drew

theorem eq_op (x y : Bk.Op) (w : World) :
    (Op.equalIn 10000 79 (.agg #[.int .i64 x.1, .int .i64 x.2.1, .int .i64 x.2.2]) (.agg #[.int .i64 y.1, .int .i64 y.2.1, .int .i64 y.2.2])).run Try.prog w = .ok (x == y) w := by
  have hf : Try.prog.underlying 79 = some (.struct (Try.prog.fieldsOf 79)) := by kernel_rfl
  have hs : Try.prog.stoodInHeld 79 = false := by kernel_rfl
  have hp : ∀ (xs : Array Value) (j : Nat) (v : Value), xs[j]? = some v → (part 3 xs j).run Try.prog w = .ok v w := fun xs j v h1 => by
    simp [part, isAgg, run_underlying Try.underlying3, h1]
  have hq : ∀ (x y : Int), (Op.equalIn 9999 3 (.int .i64 x) (.int .i64 y)).run Try.prog w = .ok (x == y) w := fun x y => by
    rw [show (9999 : Nat) = 9998 + 1 from rfl, run_equalIn_int w 9998 3 .i64 .i64 x y Try.underlying3]
  rw [show (10000 : Nat) = 9999 + 1 from rfl, run_equalIn_struct w 9999 _ _ _ hf hs]
  have hl : (Try.prog.fieldsOf 79).toList.map (fun f => (f.name, f.type, f.offset)) = [("Kind", 3, 0), ("Key", 3, 1), ("Val", 3, 2)] := by kernel_rfl
  obtain ⟨x1, x2, x3⟩ := x
  obtain ⟨y1, y2, y3⟩ := y
  dsimp only
  revert hl
  generalize (Try.prog.fieldsOf 79).toList = fs
  intro hl
  rcases fs with _ | ⟨f1, fs⟩
  · simp at hl
  rcases fs with _ | ⟨f2, fs⟩
  · simp at hl
  rcases fs with _ | ⟨f3, fs⟩
  · simp at hl
  rcases fs with _ | ⟨f4, fs⟩
  · simp only [List.map_cons, List.map_nil, List.cons.injEq, Prod.mk.injEq, and_true] at hl
    obtain ⟨⟨n1, t1, o1⟩, ⟨n2, t2, o2⟩, ⟨n3, t3, o3⟩⟩ := hl
    have a1 := hp #[.int .i64 x1, .int .i64 x2, .int .i64 x3] 0 _ rfl
    have a2 := hp #[.int .i64 x1, .int .i64 x2, .int .i64 x3] 1 _ rfl
    have a3 := hp #[.int .i64 x1, .int .i64 x2, .int .i64 x3] 2 _ rfl
    have b1 := hp #[.int .i64 y1, .int .i64 y2, .int .i64 y3] 0 _ rfl
    have b2 := hp #[.int .i64 y1, .int .i64 y2, .int .i64 y3] 1 _ rfl
    have b3 := hp #[.int .i64 y1, .int .i64 y2, .int .i64 y3] 2 _ rfl
    have hb : ((x1, x2, x3) == (y1, y2, y3)) = (x1 == y1 && (x2 == y2 && x3 == y3)) := rfl
    rw [hb]
    cases h0 : (x1 == y1) <;> cases h1 : (x2 == y2) <;> cases h2 : (x3 == y3) <;> simp [Op.eqFields, n1, n2, n3, t1, t2, t3, o1, o2, o3, hq, a1, a2, a3, b1, b2, b3, h0, h1, h2]
  · simp at hl

set_option maxRecDepth 4096 in
set_option maxHeartbeats 800000 in
theorem ref05_Same (a1 a2 : Option Addr) (n1 n2 c1 c2 : Nat) (l m : List Bk.Op) (w : World) (hs : RS EOp w a1 n1 l) (ht : RS EOp w a2 n2 m) (hl : n1 ≤ 1099511627776) :
    Calls Try.prog 39 #[.slice a1 n1 c1, .slice a2 n2 c2] w fun e w' => e = .returned (.bool (l == m)) ∧ Below w.heap.size w w' := by
  obtain ⟨rfl, hs⟩ := hs
  obtain ⟨rfl, ht⟩ := ht
  by_cases hlen : l.length = m.length
  · have hne : ((l.length : Int) != (m.length : Int)) = false := by simp [hlen]
    have Hlen := Lib.hid hlen
    clear hlen
    go_enter Try.func39, Try.ntmps39
    go_wp2_with fail
    go_loopw [13] (fun i wr => ∃ k : Nat, k ≤ l.length ∧ i = .int .i64 k ∧ l.take k = m.take k ∧ Below w.heap.size w wr) (fun i _ => l.length - (intOf i).toNat)
    case atStart => exact ⟨0, Nat.zero_le _, rfl, rfl, Below.refl _ _⟩
    case round =>
      obtain ⟨k, hk, rfl, htk, hb⟩ := hrel
      by_cases hlt : k < l.length
      · have hki : (k : Int) < (l.length : Int) := by omega
        have hkm : k < m.length := by have := Hlen.out; omega
        have hki2 : (k : Int) < (m.length : Int) := by omega
        have htl : (l.take (k + 1) = m.take (k + 1)) ↔ (l[k] = m[k]) := by
          rw [← List.take_append_getElem hlt, ← List.take_append_getElem hkm, htk, List.append_right_inj]
          simp only [List.cons.injEq, and_true]
        have heq := eq_op l[k] m[k]
        obtain ⟨b1, o1, rfl, p1, p2, p3, _⟩ := sl_op (hs.below (by decide) hb) k hlt
        obtain ⟨b2, o2, rfl, q1, q2, q3, _⟩ := sl_op (ht.below (by decide) hb) k hkm
        obtain ⟨x, hx⟩ : ∃ x, x = l[k] := ⟨_, rfl⟩
        obtain ⟨y, hy⟩ : ∃ y, y = m[k] := ⟨_, rfl⟩
        have hlm : x ≠ y → (l == m) = false := fun h => by
          rw [beq_eq_false_iff_ne]
          rintro rfl
          exact h (by rw [hx, hy])
        rw [← hx] at p1 p2 p3 htl heq
        rw [← hy] at q1 q2 q3 htl heq
        have Htl := Lib.hid htl
        have Htk := Lib.hid htk
        have Hlm := Lib.hid hlm
        clear hx hy htl htk hlm
        by_cases hxy : x = y
        · have hb1 : (x == y) = true := by simp [hxy]
          have hz := Htl.out.2 hxy
          have Hz := Lib.hid hz
          clear hz hxy
          rw [hb1] at heq
          obtain ⟨x1, x2, x3⟩ := x
          obtain ⟨y1, y2, y3⟩ := y
          dsimp only at heq p1 p2 p3 q1 q2 q3
          go_wp2_with fail
          go_region_held3 (fun W => W.cell? ⟨b1, o1 + k * 3, none⟩ = some (.int .i64 x1) ∧ W.cell? ⟨b1, o1 + k * 3 + 1, none⟩ = some (.int .i64 x2) ∧ W.cell? ⟨b1, o1 + k * 3 + 2, none⟩ = some (.int .i64 x3) ∧
              W.cell? ⟨b2, o2 + k * 3, none⟩ = some (.int .i64 y1) ∧ W.cell? ⟨b2, o2 + k * 3 + 1, none⟩ = some (.int .i64 y2) ∧ W.cell? ⟨b2, o2 + k * 3 + 2, none⟩ = some (.int .i64 y3)) (go_keep) (fail)
          go_wp2_with fail
          go_roundw
          case rel => exact ⟨k + 1, by omega, by go_num, Hz.out, hb.drew⟩
          case measure => simp [intOf]; omega
        · have hb1 : (x == y) = false := by simp [hxy]
          have hz := Hlm.out hxy
          have Hz := Lib.hid hz
          clear hz hxy
          rw [hb1] at heq
          obtain ⟨x1, x2, x3⟩ := x
          obtain ⟨y1, y2, y3⟩ := y
          dsimp only at heq p1 p2 p3 q1 q2 q3
          go_wp2_with fail
          go_region_held3 (fun W => W.cell? ⟨b1, o1 + k * 3, none⟩ = some (.int .i64 x1) ∧ W.cell? ⟨b1, o1 + k * 3 + 1, none⟩ = some (.int .i64 x2) ∧ W.cell? ⟨b1, o1 + k * 3 + 2, none⟩ = some (.int .i64 x3) ∧
              W.cell? ⟨b2, o2 + k * 3, none⟩ = some (.int .i64 y1) ∧ W.cell? ⟨b2, o2 + k * 3 + 1, none⟩ = some (.int .i64 y2) ∧ W.cell? ⟨b2, o2 + k * 3 + 2, none⟩ = some (.int .i64 y3)) (go_keep) (fail)
          go_wp2_with fail
          go_ret
          rw [Hz.out]
          exact ⟨rfl, hb.drew⟩
      · have hki : ¬ ((k : Int) < (l.length : Int)) := by omega
        have hlm : l = m := by
          have h1 := List.take_of_length_le (show l.length ≤ k by omega)
          have h2 := List.take_of_length_le (show m.length ≤ k by have := Hlen.out; omega)
          rw [← h1, ← h2, htk]
        have hz : (l == m) = true := by simp [hlm]
        have Hz := Lib.hid hz
        clear hz hlm htk
        go_wp2_with fail
        go_ret
        rw [Hz.out]
        exact ⟨rfl, hb⟩
  · have hne : ((l.length : Int) != (m.length : Int)) = true := by simp; omega
    have hlm : (l == m) = false := by rw [beq_eq_false_iff_ne]; rintro rfl; exact hlen rfl
    rw [hlm]
    clear hlm hlen
    go_enter Try.func39, Try.ntmps39
    go_wp2_with fail
    go_ret
    exact ⟨rfl, Below.refl _ _⟩

set_option maxRecDepth 4096 in
set_option maxHeartbeats 1600000 in
theorem ref05_SameEvents (a1 a2 : Option Addr) (n1 n2 c1 c2 : Nat) (l m : List Bk.Ev) (w : World) (hs : RS EEv w a1 n1 l) (ht : RS EEv w a2 n2 m) (hl : n1 ≤ 1099511627776) (hops : ∀ e ∈ l, e.2.2.length ≤ 1099511627776) :
    Calls Try.prog 15 #[.slice a1 n1 c1, .slice a2 n2 c2] w fun e w' => e = .returned (.bool (l == m)) ∧ Below w.heap.size w w' := by
  obtain ⟨rfl, hs⟩ := hs
  obtain ⟨rfl, ht⟩ := ht
  by_cases hlen : l.length = m.length
  · have hne : ((l.length : Int) != (m.length : Int)) = false := by simp [hlen]
    have Hlen := Lib.hid hlen
    have Hops := Lib.hid hops
    clear hlen hops
    go_enter Try.func15, Try.ntmps15
    go_wp2_with fail
    go_loopw [13] (fun i wr => ∃ k : Nat, k ≤ l.length ∧ i = .int .i64 k ∧ l.take k = m.take k ∧ Below w.heap.size w wr) (fun i _ => l.length - (intOf i).toNat)
    case atStart => exact ⟨0, Nat.zero_le _, rfl, rfl, Below.refl _ _⟩
    case round =>
      obtain ⟨k, hk, rfl, htk, hb⟩ := hrel
      by_cases hlt : k < l.length
      · have hki : (k : Int) < (l.length : Int) := by omega
        have hkm : k < m.length := by have := Hlen.out; omega
        have hki2 : (k : Int) < (m.length : Int) := by omega
        have htl : (l.take (k + 1) = m.take (k + 1)) ↔ (l[k] = m[k]) := by
          rw [← List.take_append_getElem hlt, ← List.take_append_getElem hkm, htk, List.append_right_inj]
          simp only [List.cons.injEq, and_true]
        have hol := Hops.out l[k] (List.getElem_mem hlt)
        obtain ⟨b1, o1, a1', c1', rfl, p1, p2, p3, _, _, hs1, _⟩ := sl_ev (hs.below (by decide) hb) k hlt
        obtain ⟨b2, o2, a2', c2', rfl, q1, q2, q3, _, _, ht1, _⟩ := sl_ev (ht.below (by decide) hb) k hkm
        obtain ⟨x, hx⟩ : ∃ x, x = l[k] := ⟨_, rfl⟩
        obtain ⟨y, hy⟩ : ∃ y, y = m[k] := ⟨_, rfl⟩
        have hlm : x ≠ y → (l == m) = false := fun h => by
          rw [beq_eq_false_iff_ne]
          rintro rfl
          exact h (by rw [hx, hy])
        rw [← hx] at p1 p2 p3 htl hs1 hol
        rw [← hy] at q1 q2 q3 htl ht1
        have Htl := Lib.hid htl
        have Htk := Lib.hid htk
        have Hlm := Lib.hid hlm
        clear hx hy htl htk hlm
        obtain ⟨x1, x2, x3⟩ := x
        obtain ⟨y1, y2, y3⟩ := y
        dsimp only at p1 p2 p3 q1 q2 q3 hs1 ht1 hol
        have rs1 : RS EOp wr.drew a1' x3.length x3 := ⟨rfl, hs1.heap (by decide) rfl⟩
        have rs2 : RS EOp wr.drew a2' y3.length y3 := ⟨rfl, ht1.heap (by decide) rfl⟩
        by_cases d1 : x1 = y1
        · have h1 : (x1 != y1) = false := by simp [d1]
          by_cases d2 : x2 = y2
          · have h2 : (x2 != y2) = false := by simp [d2]
            by_cases d3 : x3 = y3
            · have h3 : (x3 == y3) = true := by simp [d3]
              have hz := Htl.out.2 (by rw [d1, d2, d3])
              have Hz := Lib.hid hz
              clear hz d1 d2 d3
              go_wp2_with fail
              go_region_held3 (fun W => W.cell? ⟨b1, o1 + k * 3, none⟩ = some (.int .i64 x1) ∧ W.cell? ⟨b1, o1 + k * 3 + 1, none⟩ = some (.int .i64 x2) ∧ W.cell? ⟨b1, o1 + k * 3 + 2, none⟩ = some (.slice a1' x3.length c1') ∧
                          W.cell? ⟨b2, o2 + k * 3, none⟩ = some (.int .i64 y1) ∧ W.cell? ⟨b2, o2 + k * 3 + 1, none⟩ = some (.int .i64 y2) ∧ W.cell? ⟨b2, o2 + k * 3 + 2, none⟩ = some (.slice a2' y3.length c2'))
                (first | go_keep | exact ⟨cell_thru p1 ((Below.refl _ _).drew.trans hb5), cell_thru p2 ((Below.refl _ _).drew.trans hb5), cell_thru p3 ((Below.refl _ _).drew.trans hb5), cell_thru q1 ((Below.refl _ _).drew.trans hb5), cell_thru q2 ((Below.refl _ _).drew.trans hb5), cell_thru q3 ((Below.refl _ _).drew.trans hb5)⟩)
                ((go_at_call 39; refine (ref05_Same _ _ _ _ _ _ x3 y3 wr.drew rs1 rs2 hol).mono ?_; rw [h3]; rintro e w5 ⟨rfl, hb5⟩))
              go_wp2_with fail
              go_roundw
              case rel => exact ⟨k + 1, by omega, by go_num, Hz.out, hb.drew.trans (hb5.mono hb.size)⟩
              case measure => simp [intOf]; omega
            · have h3 : (x3 == y3) = false := by simp [d3]
              have hz := Hlm.out (fun h => d3 (by injection h with _ h; injection h))
              have Hz := Lib.hid hz
              clear hz d1 d2 d3
              go_wp2_with fail
              go_region_held3 (fun W => W.cell? ⟨b1, o1 + k * 3, none⟩ = some (.int .i64 x1) ∧ W.cell? ⟨b1, o1 + k * 3 + 1, none⟩ = some (.int .i64 x2) ∧ W.cell? ⟨b1, o1 + k * 3 + 2, none⟩ = some (.slice a1' x3.length c1') ∧
                          W.cell? ⟨b2, o2 + k * 3, none⟩ = some (.int .i64 y1) ∧ W.cell? ⟨b2, o2 + k * 3 + 1, none⟩ = some (.int .i64 y2) ∧ W.cell? ⟨b2, o2 + k * 3 + 2, none⟩ = some (.slice a2' y3.length c2'))
                (first | go_keep | exact ⟨cell_thru p1 ((Below.refl _ _).drew.trans hb5), cell_thru p2 ((Below.refl _ _).drew.trans hb5), cell_thru p3 ((Below.refl _ _).drew.trans hb5), cell_thru q1 ((Below.refl _ _).drew.trans hb5), cell_thru q2 ((Below.refl _ _).drew.trans hb5), cell_thru q3 ((Below.refl _ _).drew.trans hb5)⟩)
                ((go_at_call 39; refine (ref05_Same _ _ _ _ _ _ x3 y3 wr.drew rs1 rs2 hol).mono ?_; rw [h3]; rintro e w5 ⟨rfl, hb5⟩))
              go_wp2_with fail
              go_ret
              rw [Hz.out]
              exact ⟨rfl, hb.drew.trans (hb5.mono hb.size)⟩
          · have h2 : (x2 != y2) = true := by simp [d2]
            have hz := Hlm.out (fun h => d2 (by injection h with _ h; injection h))
            have Hz := Lib.hid hz
            clear hz d1 d2
            go_wp2_with fail
            go_quiet (fail)
            go_wp2_with fail
            go_ret
            rw [Hz.out]
            exact ⟨rfl, below_drewM hb _⟩
        · have h1 : (x1 != y1) = true := by simp [d1]
          have hz := Hlm.out (fun h => d1 (by injection h))
          have Hz := Lib.hid hz
          clear hz d1
          go_wp2_with fail
          go_quiet (fail)
          go_wp2_with fail
          go_ret
          rw [Hz.out]
          exact ⟨rfl, below_drewM hb _⟩
      · have hki : ¬ ((k : Int) < (l.length : Int)) := by omega
        have hlm : l = m := by
          have h1 := List.take_of_length_le (show l.length ≤ k by omega)
          have h2 := List.take_of_length_le (show m.length ≤ k by have := Hlen.out; omega)
          rw [← h1, ← h2, htk]
        have hz : (l == m) = true := by simp [hlm]
        have Hz := Lib.hid hz
        clear hz hlm htk
        go_wp2_with fail
        go_ret
        rw [Hz.out]
        exact ⟨rfl, hb⟩
  · have hne : ((l.length : Int) != (m.length : Int)) = true := by simp; omega
    have hlm : (l == m) = false := by rw [beq_eq_false_iff_ne]; rintro rfl; exact hlen rfl
    rw [hlm]
    clear hlm hlen
    go_enter Try.func15, Try.ntmps15
    go_wp2_with fail
    go_ret
    exact ⟨rfl, Below.refl _ _⟩
end Go.Proofs.Ytennjoegjghlaaa

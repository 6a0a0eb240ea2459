
/-
  The shortest cycle: the program's search.
-/
import Derived.Test.YticpbiccgnfecaaGraV
namespace Go.Proofs.Yticpbiccgnfecaa
open Go.RowKit
set_option linter.unusedVariables false

/-- the first of the shortest cycles comes back, or nil -/
def CycPost (B N : Nat) (R : Gr.Rel) (w : World) (e : Ending) (w' : World) : Prop :=
  ∃ (v : Value) (c : List Nat), e = .returned v ∧ Gr.CycS R c ∧ Own EInt 3 B w' v (natI c) ∧ Below B w w'
def BestV (D : Nat) (w : World) (v : Value) (best : List Nat) : Prop := (best = [] ∧ v = .slice none 0 0) ∨ (best ≠ [] ∧ Own EInt 3 D w v (natI best))
theorem BestV.below {D : Nat} {w w' : World} {v : Value} {best : List Nat} (h : BestV D w v best) (hb : Below w.heap.size w w') : BestV D w' v best := by
  rcases h with h | ⟨h1, h2⟩
  · exact .inl h
  · exact .inr ⟨h1, h2.below hb⟩
theorem BestV.own {D : Nat} {w : World} {v : Value} {best : List Nat} (h : BestV D w v best) : Own EInt 3 D w v (natI best) := by
  rcases h with ⟨rfl, rfl⟩ | ⟨h1, h2⟩
  · exact .inl ⟨rfl, rfl⟩
  · exact h2
theorem grown_drewN {w w' : World} {row : Option Nat} (h : w.grownBy w' row) (q : Nat) : w.grownBy (w'.drewN q) row :=
  ⟨h.os, h.tape, h.output, by rw [drewN_heap]; exact h.size, fun k hk hn => by rw [drewN_heap]; exact h.block k hk hn⟩
theorem grown_set {w w' : World} {g : Nat} (h : w.grownBy w' (some g)) (k : Nat) (v : Value) : w.grownBy (w'.setCell ⟨g, k, none⟩ v) (some g) :=
  ⟨h.os, h.tape, h.output, by simpa using h.size, fun b hb hn => by rw [heap_setOther w' (fun e => hn (by rw [e]))]; exact h.block b hb hn⟩

theorem own_one (w : World) (k : Nat) (hk : (k : Int) ≤ 9223372036854775807 := by omega) : Own EInt 3 w.heap.size (w.alloc (.cells #[.int .i64 k] 3)) (.slice (some ⟨w.heap.size, 0, none⟩) 1 1) (natI ([] ++ [k])) := by
  refine .inr ⟨w.heap.size, 1, #[.int .i64 k], rfl, Nat.le_refl _, heap_alloc_new w _, Nat.le_refl _, by decide, rfl, fun i y hy => ?_⟩
  have hi : i = 0 := by have := (List.getElem?_eq_some_iff.1 hy).1; simp [natI] at this; exact this
  subst hi
  simp [natI] at hy; subst hy
  exact ⟨[.int .i64 (k : Int)], ⟨rfl, by omega, hk⟩, fun j u hj => by
    have hj0 : j = 0 := by have := (List.getElem?_eq_some_iff.1 hj).1; simp at this; exact this
    subst hj0; simpa [EInt] using hj⟩
theorem first_idx {row : List Nat} (out : Nat → Int) (r : Int) {v : Nat} (hv : v ∈ row) (he : out v = r) : ∃ (i : Nat) (hi : i < row.length), out row[i] = r ∧ ∀ j (hj : j < i), out (row[j]'(by omega)) ≠ r := by
  induction row with
  | nil => simp at hv
  | cons a t ih =>
    by_cases ha : out a = r
    · exact ⟨0, by simp, ha, fun j hj => by omega⟩
    · have hv' : v ∈ t := by
        rcases List.mem_cons.1 hv with e | h
        · rw [e] at he; exact absurd he ha
        · exact h
      obtain ⟨i, hi, h1, h2⟩ := ih hv'
      refine ⟨i + 1, by simpa using hi, by simpa using h1, fun j hj => ?_⟩
      cases j with
      | zero => simpa using ha
      | succ j => have := h2 j (by omega); simpa using this

set_option maxRecDepth 4096 in
set_option maxHeartbeats 3200000 in
theorem graph_Cycle (B : Nat) (n : Int) (N : Nat) (a : Option Addr) (m c : Nat) (l : List (Int × Int)) (w : World) (hB : w.heap.size = B) (hr : RS EArc w a m l) (hN : min (max n 0) 400 = (N : Int)) (hl : m ≤ 100000) :
    Calls Try.prog 22 #[.int .i64 n, .slice a m c] w (CycPost B N (Gr.T N l) w) := by
  have hNl : N ≤ 400 := by omega
  have HN := Lib.hid hN
  have hN0 : (0 : Int) ≤ (N : Int) := by omega
  have hN1 : (N : Int) ≤ 400 := by omega
  clear hN
  go_enter Try.func22, Try.ntmps22
  go_wp2_with fail
  refine (graph_size n _).mono ?_
  rintro e w' ⟨rfl, rfl⟩
  rw [HN.out]
  go_wp2_with fail
  refine (graph_next B N a m c l _ hB hr (by omega) hl).mono ?_
  rintro e w2 ⟨rfl, ⟨vs, hR⟩, hb⟩
  obtain ⟨D, hD⟩ : ∃ D, D = w2.heap.size := ⟨_, rfl⟩
  have HR := Lib.hid hR
  have Hb := Lib.hid hb
  have HB := Lib.hid hB
  obtain ⟨R, hRe⟩ : ∃ R, R = Gr.T N l := ⟨_, rfl⟩
  have hbd : Gr.Bd N R := by rw [hRe]; exact Gr.T_bd N l
  rw [← hRe] at HR
  have HD := Lib.hid hD
  have HRe := Lib.hid hRe
  have hBD : B ≤ D := by rw [hD, ← hB]; exact hb.size
  have hDr : Below D w2 w2 := Below.refl _ _
  have HDs := Lib.hid (show D ≤ w2.heap.size by omega)
  clear hR hb hB hr hRe hD
  go_wp2_with fail
  go_loopg [6, 20] N (fun gn v i wr => ∃ (k : Nat) (best : List Nat), RowKit.Hid (gn = N - k) ∧ k ≤ N ∧ i = .int .i64 k ∧ RowKit.Hid (BestV D wr v best) ∧ RowKit.Hid (Gr.Bst R k best) ∧ best.length ≤ N + 1 ∧ Below D w2 wr)
  case atStart => exact ⟨0, [], Lib.hid rfl, Nat.zero_le _, rfl, Lib.hid (.inl ⟨rfl, rfl⟩), Lib.hid (Gr.Bst.zero R), by simp, hDr⟩
  case round =>
    clear hDr
    obtain ⟨k, best, hgn, hk, rfl, hV, hBst, hbl, hbw⟩ := hrel
    obtain ⟨vb, hvb⟩ : ∃ x, x = u6 := ⟨_, rfl⟩
    rw [← hvb] at hV ⊢
    clear hvb
    obtain ⟨wo, rfl⟩ : ∃ x : World, x = wr := ⟨_, rfl⟩
    have hwsz : D ≤ wo.heap.size := Nat.le_trans HDs.out hbw.size
    by_cases hlt : k < N
    · have hki : (k : Int) < (N : Int) := by omega
      have hk0 : (0 : Int) ≤ (k : Int) := by omega
      go_wp2_with fail
      refine (graph_far _ B N k vs R _ rfl (HR.out.lowW HD.out.symm hbw) hbd hNl hlt).mono ?_
      rintro e w4 ⟨E, out, rfl, hv4, haw, hbnd, hb4⟩
      have hbw4 : Below D w2 w4 := hbw.trans (hb4.mono hwsz)
      have hV4 := hV.out.below hb4
      have hE4 := hv4.lt
      obtain ⟨w5, hw5⟩ : ∃ x, x = w4.alloc (.cells #[.slice (some ⟨E, 0, none⟩) N N] 23) := ⟨_, rfl⟩
      obtain ⟨w6, hw6⟩ : ∃ x, x = w5.alloc (.cells #[.int .i64 (-1)] 3) := ⟨_, rfl⟩
      have hb5 : Below w4.heap.size w4 w5 := by rw [hw5]; exact alloc_below _ _
      have hb6 : Below w5.heap.size w5 w6 := by rw [hw6]; exact alloc_below _ _
      have hs5 : w5.heap.size = w4.heap.size + 1 := by rw [hw5]; simp
      obtain ⟨A, hA⟩ : ∃ A, A = w4.heap.size := ⟨_, rfl⟩
      obtain ⟨Lb, hLb⟩ : ∃ x, x = w5.heap.size := ⟨_, rfl⟩
      have hAL : A < Lb := by omega
      have hLA : Lb ≤ A + 1 := by omega
      have hhA : w6.heap[A]? = some (.cells #[.slice (some ⟨E, 0, none⟩) N N] 23 (0, 0)) := by
        rw [hb6.block A (by omega), hw5, hA]; exact heap_alloc_new w4 _
      have hhL : w6.heap[Lb]? = some (.cells #[.int .i64 (-1)] 3 (0, 0)) := by
        rw [hw6, hLb]; exact heap_alloc_new w5 _
      have hb46 : Below A w4 w6 := by rw [hA]; exact hb5.trans (hb6.mono (by omega))
      have hbw6 : Below D w2 w6 := hbw4.trans (hb46.mono (by have := hbw4.size; have := HDs.out; omega))
      have hV6 := hV4.below (by rw [← hA]; exact hb46)
      have hv6 := hv4.below (by rw [← hA]; exact hb46)
      rw [← hA] at hE4
      have hs6 : w6.heap.size = A + 2 := by rw [hw6]; simp [hs5, hA]
      have hDA : D ≤ A := by rw [hA]; have := hbw4.size; have := HDs.out; omega
      have hw5' := hw5.symm
      have hw6' := hw6.symm
      have hA' := hA.symm
      have hL' := hLb.symm
      have hs6L : Lb < w6.heap.size := by omega
      have hgA : ∀ g, vb.ownBlock = some g → g < A := fun g hg => by rw [hA]; exact (hV4.own.lt g hg).2
      have HgA := Lib.hid hgA
      have HV6 := Lib.hid hV6
      have Hv6 := Lib.hid hv6
      have HhA := Lib.hid hhA
      have HhL := Lib.hid hhL
      have Haw := Lib.hid haw
      have Hbnd := Lib.hid hbnd
      have Hs6 := Lib.hid hs6
      have Hbw6 := Lib.hid hbw6
      clear hgA hV4 hV6 hv4 hv6 hhA hhL haw hbnd hb5 hb6 hw5 hw6 hA hLb hbw4 hb46 hs5 hs6 hb4 hbw6 hV hbw
      go_upto_region 9 with fail
      clear hw5' hw6' hA' hL'
      have q1 := (HR.out.lowW HD.out.symm Hbw6.out).cell k hlt
      obtain ⟨a3, c3, hv3, hc31, hc32, hs31⟩ := HR.out.row k hlt
      have hrl := Gr.row_len N R k
      have hrl2 := Gr.rowI_len N R k
      rw [hv3] at q1
      obtain ⟨L, hL⟩ : ∃ x, x = (Gr.rowI N R k).length := ⟨_, rfl⟩
      rw [← hL] at q1 hc31 hrl2
      have hLN : (L : Int) ≤ 400 := by omega
      have Hs31 := Lib.hid hs31
      have HL := Lib.hid hL
      have Hrl2 := Lib.hid hrl2
      have hg0 : RowKit.Hid (w6.grownBy w6 (some Lb)) := Lib.hid (World.grownBy.refl _ _)
      clear hs31 hv3 hL hrl2
      go_wp2_with fail
      go_loopg [31] L (fun gm i w' => ∃ (j : Nat) (len : Int), RowKit.Hid (gm = L - j) ∧ j ≤ L ∧ i = .int .i64 j ∧ RowKit.Hid (w6.grownBy w' (some Lb)) ∧ RowKit.Hid (w'.heap[Lb]? = some (.cells #[.int .i64 len] 3 (0, 0))) ∧ RowKit.Hid (Gr.MinA out ((Gr.rowN N R k).take j) len) ∧ -1 ≤ len ∧ len ≤ (N : Int))
      case atStart => exact ⟨0, -1, Lib.hid rfl, Nat.zero_le _, rfl, hg0, HhL, Lib.hid (by rw [List.take_zero]; exact Gr.MinA.nil out), by omega, by omega⟩
      case round =>
        clear hg0 q1
        obtain ⟨j, len, hgm, hj, rfl, hg, hhL, hMin, hl0, hl1⟩ := hrel
        have cL : wr.cell? ⟨Lb, 0, none⟩ = some (.int .i64 len) := by simp [World.cell?, hhL.out]
        have fL : wr.frozen? ⟨Lb, 0, none⟩ = false := by simp [World.frozen?, hhL.out]
        have cA : wr.cell? ⟨A, 0, none⟩ = some (.slice (some ⟨E, 0, none⟩) N N) := by
          rw [cell_keep (hg.out.block A (by omega) (fun e => by injection e with e; omega))]; simp [World.cell?, HhA.out]
        have hbwr : Below D w2 wr := Hbw6.out.grown hg.out (by omega) fun q hq => by injection hq with hq; omega
        have hVr : Vec wr E 3 N (fun v => .int .i64 (out v)) := Hv6.out.keep (hg.out.block E (by omega) (fun e => by injection e with e; omega))
        have HVr := Lib.hid hVr
        have Hbwr := Lib.hid hbwr
        clear hVr hbwr
        by_cases hjl : j < L
        · have hji : (j : Int) < (L : Int) := by omega
          have hj0 : (0 : Int) ≤ (j : Int) := by omega
          have hsj := Hs31.out.below (by decide) (show Below w2.heap.size w2 wr by rw [← HD.out]; exact Hbwr.out)
          obtain ⟨b4, o4, rfl, p4, r41, r42⟩ := SlI.at hsj j (by rw [← HL.out]; exact hjl)
          have hjr : j < (Gr.rowN N R k).length := by rw [← Hrl2.out]; exact hjl
          have hval : (Gr.rowI N R k)[j]'(by rw [← HL.out]; exact hjl) = (((Gr.rowN N R k)[j] : Nat) : Int) := by simp [Gr.rowI]
          rw [hval] at p4
          have htk : (Gr.rowN N R k).take (j + 1) = (Gr.rowN N R k).take j ++ [(Gr.rowN N R k)[j]] := (List.take_append_getElem hjr).symm
          have hmem : (Gr.rowN N R k)[j] < N := (Gr.mem_row.1 (List.getElem_mem hjr)).1
          obtain ⟨u, hu⟩ : ∃ u, u = (Gr.rowN N R k)[j] := ⟨_, rfl⟩
          rw [← hu] at p4 htk hmem
          clear r41 r42 hval hu hsj
          have hu0 : (0 : Int) ≤ (u : Int) := by omega
          have hu1 : (u : Int) < (N : Int) := by omega
          have y1 := HVr.out.cell hmem
          obtain ⟨hob1, hob2⟩ := Hbnd.out u
          obtain ⟨ou, hou⟩ : ∃ y, y = out u := ⟨_, rfl⟩
          rw [← hou] at y1 hob1 hob2
          have Hou := Lib.hid hou
          have Htk := Lib.hid htk
          clear hou htk
          by_cases c1 : 0 ≤ ou
          · by_cases c2 : len < 0 ∨ ou < len
            · have hMn : RowKit.Hid (Gr.MinA out ((Gr.rowN N R k).take (j + 1)) ou) := Lib.hid (by
                rw [Htk.out]
                have := hMin.out.yes (v := u) (by rw [← Hou.out]; exact c1) (by rw [← Hou.out]; exact c2)
                rw [← Hou.out] at this; exact this)
              clear hMin
              by_cases c3 : len < 0
              · have d1 : decide (0 ≤ ou) = true := by simpa using c1
                have d2 : decide (len < 0) = true := by simpa using c3
                clear c2
                go_upto_region 12 with fail
                go_quiet (fail)
                have hgn := Lib.hid (grown_set (grown_drewN hg.out nq) 0 (.int .i64 ou))
                have hhn : RowKit.Hid (((wr.drewN nq).setCell ⟨Lb, 0, none⟩ (.int .i64 ou)).heap[Lb]? = some (.cells #[.int .i64 ou] 3 (0, 0))) := Lib.hid (by
                  have := heap_set (w := wr.drewN nq) (g := Lb) (by rw [drewN_heap]; exact hhL.out) 0 (.int .i64 ou)
                  simpa using this)
                clear hg hhL
                go_wp2_with fail
                go_roundg (L - (j + 1))
                case measure => rw [hgm.out]; omega
                case rel => exact ⟨j + 1, ou, Lib.hid rfl, by omega, by go_num, hgn, hhn, hMn, by omega, by omega⟩
              · have c4 : ou < len := by omega
                have d1 : decide (0 ≤ ou) = true := by simpa using c1
                have d2 : decide (len < 0) = false := by simpa using c3
                have d3 : decide (ou < len) = true := by simpa using c4
                clear c2
                go_upto_region 12 with fail
                go_quiet (fail)
                have hgn := Lib.hid (grown_set (grown_drewN hg.out nq) 0 (.int .i64 ou))
                have hhn : RowKit.Hid (((wr.drewN nq).setCell ⟨Lb, 0, none⟩ (.int .i64 ou)).heap[Lb]? = some (.cells #[.int .i64 ou] 3 (0, 0))) := Lib.hid (by
                  have := heap_set (w := wr.drewN nq) (g := Lb) (by rw [drewN_heap]; exact hhL.out) 0 (.int .i64 ou)
                  simpa using this)
                clear hg hhL
                go_wp2_with fail
                go_roundg (L - (j + 1))
                case measure => rw [hgm.out]; omega
                case rel => exact ⟨j + 1, ou, Lib.hid rfl, by omega, by go_num, hgn, hhn, hMn, by omega, by omega⟩
            · have c3 : ¬ len < 0 := by omega
              have c4 : ¬ ou < len := by omega
              have hMn : RowKit.Hid (Gr.MinA out ((Gr.rowN N R k).take (j + 1)) len) := Lib.hid (by
                rw [Htk.out]
                exact hMin.out.no (v := u) (by rw [← Hou.out]; omega))
              have d1 : decide (0 ≤ ou) = true := by simpa using c1
              have d2 : decide (len < 0) = false := by simpa using c3
              have d3 : decide (ou < len) = false := by simpa using c4
              clear hMin c2
              go_upto_region 12 with fail
              go_quiet (fail)
              have hgn := Lib.hid (grown_drewN hg.out nq)
              have hhn : RowKit.Hid ((wr.drewN nq).heap[Lb]? = some (.cells #[.int .i64 len] 3 (0, 0))) := Lib.hid (by rw [drewN_heap]; exact hhL.out)
              clear hg hhL
              go_wp2_with fail
              go_roundg (L - (j + 1))
              case measure => rw [hgm.out]; omega
              case rel => exact ⟨j + 1, len, Lib.hid rfl, by omega, by go_num, hgn, hhn, hMn, by omega, by omega⟩
          · have hMn : RowKit.Hid (Gr.MinA out ((Gr.rowN N R k).take (j + 1)) len) := Lib.hid (by
              rw [Htk.out]
              exact hMin.out.no (v := u) (by rw [← Hou.out]; omega))
            have d1 : decide (0 ≤ ou) = false := by simpa using c1
            clear hMin
            go_upto_region 12 with fail
            go_quiet (fail)
            have hgn := Lib.hid (grown_drewN hg.out nq)
            have hhn : RowKit.Hid ((wr.drewN nq).heap[Lb]? = some (.cells #[.int .i64 len] 3 (0, 0))) := Lib.hid (by rw [drewN_heap]; exact hhL.out)
            clear hg hhL
            go_wp2_with fail
            go_roundg (L - (j + 1))
            case measure => rw [hgm.out]; omega
            case rel => exact ⟨j + 1, len, Lib.hid rfl, by omega, by go_num, hgn, hhn, hMn, by omega, by omega⟩
        · have hji : ¬ ((j : Int) < (L : Int)) := by omega
          have hMf : RowKit.Hid (Gr.MinA out (Gr.rowN N R k) len) := Lib.hid (by
            have := hMin.out
            rw [List.take_of_length_le (by have := Hrl2.out; omega)] at this; exact this)
          clear hMin hgm hj
          have hwL : Lb < wr.heap.size := Nat.lt_of_lt_of_le hs6L hg.out.size
          have hnq := fun (W : World) (a : Option Addr) (n c : Nat) => run_neq_slice_nil_any (P := Try.prog) W 23 3 a n c 0 0 Try.underlying23
          have HVb : RowKit.Hid (BestV D wr vb best) := Lib.hid (by
            rcases HV6.out with h | ⟨h1, h2⟩
            · exact .inl h
            · exact .inr ⟨h1, OwnI.stay h2 fun g hg2 => hg.out.block g (by have := (h2.lt g hg2).2; omega) (fun e => by injection e with e; have := HgA.out g hg2; omega)⟩)
          by_cases hneg : len < 0
          · have hB1 : RowKit.Hid (Gr.Bst R (k + 1) best) := Lib.hid (hBst.out.skip (Gr.st_none hbd Haw.out hMf.out hneg))
            clear hMf hBst
            go_wp2_with fail
            go_roundg (N - (k + 1))
            case measure => rw [hgn.out]; omega
            case rel => exact ⟨k + 1, best, Lib.hid rfl, by omega, by go_num, HVb, hB1, hbl, Hbwr.out⟩
          · obtain ⟨r0, rfl⟩ : ∃ r0 : Nat, len = (r0 : Int) := ⟨len.toNat, by omega⟩
            have hSt : RowKit.Hid (Gr.St R k (r0 + 1)) := Lib.hid (by have := Gr.st_some hbd Haw.out hMf.out (by omega); simpa using this)
            clear hMf
            have hr0N : r0 ≤ N := by omega
            rcases id HVb.out with ⟨hbe, hvb⟩ | ⟨hbn, hob⟩
            · subst hvb
              clear HVb HV6
              have hkr : -9223372036854775808 ≤ (k : Int) ∧ (k : Int) ≤ 9223372036854775807 := by omega
              have hb7 := alloc_below wr (.cells #[.int .i64 k] 3)
              have ho7 : Own EInt 3 (Lb + 1) (wr.alloc (.cells #[.int .i64 k] 3)) (.slice (some ⟨wr.heap.size, 0, none⟩) 1 1) (natI ([] ++ [k])) := (own_one wr k).base (by omega)
              obtain ⟨w7, hw7⟩ : ∃ x, x = wr.alloc (.cells #[.int .i64 k] 3) := ⟨_, rfl⟩
              have hw7' := hw7.symm
              rw [← hw7] at hb7 ho7
              have hh7 : RowKit.Hid (w7.heap[Lb]? = some (.cells #[.int .i64 (r0 : Nat)] 3 (0, 0))) := Lib.hid (by rw [hb7.block Lb hwL]; exact hhL.out)
              have hlow7 : RowKit.Hid (∀ q, q < Lb → w7.heap[q]? = w6.heap[q]?) := Lib.hid fun q hq => (hb7.block q (by omega)).trans (hg.out.block q (by omega) (fun e => by injection e with e; omega))
              have hbw7 : Below D w2 w7 := Hbwr.out.trans (hb7.mono (by omega))
              have hsz7 : Lb < w7.heap.size := Nat.lt_of_lt_of_le hwL hb7.size
              have Ho7 := Lib.hid ho7
              have hgd7 : RowKit.Hid (Gr.Gd R k (r0 + 1) ([] ++ [k])) := Lib.hid (Gr.Gd.start hSt.out)
              clear hw7 hb7 ho7 hkr
              go_upto_region 17 with fail
              clear hw7' cL fL cA hnq
              go_wp2_with fail
              clear hhL hg HVr
              obtain ⟨wq, rfl⟩ : ∃ x : World, x = wr := ⟨_, rfl⟩
              go_loopg [6, 12] (r0 + 1) (fun gm v at_ w' => ∃ (b : List Nat) (x r : Nat), RowKit.Hid (gm = r + 1) ∧ at_ = .int .i64 x ∧ RowKit.Hid (Own EInt 3 (Lb + 1) w' v (natI (b ++ [x]))) ∧ RowKit.Hid (w'.heap[Lb]? = some (.cells #[.int .i64 (r : Nat)] 3 (0, 0))) ∧ RowKit.Hid (Gr.Gd R k (r0 + 1) (b ++ [x])) ∧ RowKit.Hid ((b ++ [x]).length + r = r0 + 1) ∧ RowKit.Hid (∀ q, q < Lb → w'.heap[q]? = w6.heap[q]?) ∧ Below D w2 w' ∧ Lb < w'.heap.size)
              case atStart => exact ⟨[], k, r0, Lib.hid rfl, rfl, Ho7, hh7, hgd7, Lib.hid (by simp; omega), hlow7, hbw7, hsz7⟩
              case round =>
                clear Ho7 hh7 hgd7 hlow7 hbw7 hsz7
                obtain ⟨b, x, r, hgm, rfl, hO, hhL, hGd, hlen, hlow, hbq, hsz⟩ := hrel
                have cL : wr.cell? ⟨Lb, 0, none⟩ = some (.int .i64 (r : Nat)) := by simp [World.cell?, hhL.out]
                have fL : wr.frozen? ⟨Lb, 0, none⟩ = false := by simp [World.frozen?, hhL.out]
                have hcapt : Capt wr A Lb E N out (r : Nat) := ⟨by rw [cell_keep (hlow.out A hAL)]; simp [World.cell?, HhA.out], cL, Hv6.out.keep (hlow.out E (by omega))⟩
                have hrN : r ≤ N := by have := hlen.out; rw [List.length_append, List.length_singleton] at this; omega
                by_cases hr0 : 0 < r
                · have hri : (0 : Int) < (r : Int) := by omega
                  have hrj : (r : Int) ≤ 1000 := by omega
                  have hiff := Gr.gd_iff hbd hSt.out Haw.out hGd.out (by have := hlen.out; omega)
                  have hLr : r0 + 1 - (b ++ [x]).length = r := by have := hlen.out; omega
                  rw [hLr] at hiff
                  obtain ⟨v0, hv0⟩ := hGd.out.some (by have := hlen.out; omega)
                  obtain ⟨hm0, he0⟩ := (hiff v0).1 hv0
                  obtain ⟨i, hi, hei, hni⟩ := first_idx out (r : Int) hm0 he0
                  have hxN : x < N := by
                    obtain ⟨d, hd, _, hpre⟩ := hGd.out.ex
                    exact hd.bd hbd x (List.IsPrefix.subset hpre (by simp))
                  have hnext : Gr.Gd R k (r0 + 1) (b ++ [x] ++ [(Gr.rowN N R x)[i]]) := hGd.out.next ((hiff _).2 ⟨List.getElem_mem hi, hei⟩) fun v' hv' hext => by
                    obtain ⟨h1, h2⟩ := (hiff v').1 hext
                    obtain ⟨j, hj, rfl⟩ := List.mem_iff_getElem.1 h1
                    rcases Nat.lt_or_ge j i with h | h
                    · exact hni j h h2
                    · by_cases e : j = i
                      · subst e; omega
                      · have := List.pairwise_iff_getElem.1 (Gr.row_rise N R x) i j hi hj (by omega); omega
                  have hvN : (Gr.rowN N R x)[i] < N := (Gr.mem_row.1 (List.getElem_mem hi)).1
                  have q1 := (HR.out.lowW HD.out.symm hbq).cell x hxN
                  obtain ⟨a3, c3, hv3, hc31, hc32, hs31⟩ := (HR.out.lowW HD.out.symm hbq).row x hxN
                  have hrl := Gr.row_len N R x
                  have hrl2 := Gr.rowI_len N R x
                  rw [hv3, hrl2] at q1
                  rw [hrl2] at hc31
                  obtain ⟨b4, o4, rfl, hcs⟩ := SlI.all hs31 (by rw [hrl2]; omega)
                  have hcs2 : ∀ j (hj : j < (Gr.rowN N R x).length), wr.cell? ⟨b4, o4 + j, none⟩ = some (.int .i64 ((Gr.rowN N R x)[j] : Nat)) := fun j hj => by
                    rw [hcs j (by rw [hrl2]; exact hj)]; simp [Gr.rowI]
                  have hidx := index_first A Lb E N out (r : Nat) wr hcapt b4 o4 c3 (Gr.rowN N R x) (fun y hy => (Gr.mem_row.1 hy).1) hcs2 (by omega) i hi hei (fun j hj => hni j hj)
                  have p4 := hcs2 i hi
                  obtain ⟨u, hu⟩ : ∃ u, u = (Gr.rowN N R x)[i] := ⟨_, rfl⟩
                  rw [← hu] at p4 hnext hvN
                  obtain ⟨Lx, hLx⟩ : ∃ y, y = (Gr.rowN N R x).length := ⟨_, rfl⟩
                  rw [← hLx] at q1 hidx hrl hc31 hi
                  have hi0 : (0 : Int) ≤ (i : Int) := by omega
                  have hi1 : (i : Int) < (Lx : Int) := by omega
                  have hx0 : (0 : Int) ≤ (x : Int) := by omega
                  have hx1 : (x : Int) < (N : Int) := by omega
                  have Hidx := Lib.hid hidx
                  have Hnext := Lib.hid hnext
                  have hol : (natI (b ++ [x])).length ≤ 1000 := by rw [natI_len]; have := hlen.out; omega
                  clear hiff hLr hv0 hm0 he0 hei hni hs31 hv3 hcs hcs2 hidx hu hLx hnext hrl2 hcapt
                  clear v0
                  go_wp2_with fail
                  refine (Hidx.out).mono ?_
                  rintro e w' ⟨rfl, qd, rfl⟩
                  obtain ⟨wd, hwd⟩ : ∃ y, y = wr.drewN qd := ⟨_, rfl⟩
                  have hhd : wd.heap = wr.heap := by rw [hwd, drewN_heap]
                  rw [← hwd]
                  have hur : -9223372036854775808 ≤ (u : Int) ∧ (u : Int) ≤ 9223372036854775807 := by omega
                  have hOd : Own EInt 3 (Lb + 1) wd u6 (natI (b ++ [x])) := hO.out.keep fun q _ => by rw [hhd]
                  have Hb67 := Lib.hid (alloc_below wd (.cells #[.int .i64 u] 3))
                  have HO7 := Lib.hid (hOd.below Hb67.out)
                  have HS7 : RowKit.Hid (Sl EInt (fun q => some q ≠ u6.ownBlock) (wd.alloc (.cells #[.int .i64 u] 3)) (some ⟨wd.heap.size, 0, none⟩) [(u : Int)]) := Lib.hid (sl_one (heap_alloc_new wd _) ⟨rfl, hur⟩ hOd.fresh)
                  have Hbd : RowKit.Hid (Below D w2 wd) := Lib.hid (hbq.trans ⟨by rw [hwd]; rfl, by rw [hwd]; rfl, by rw [hwd]; rfl, by rw [hhd]; exact Nat.le_refl _, fun q _ => by rw [hhd]⟩)
                  have Hhd := Lib.hid hhd
                  have q2 : wd.cell? ⟨B, x, none⟩ = some (.slice (some ⟨b4, o4, none⟩) Lx c3) := (cell_keep (by rw [hhd])).trans q1
                  have p5 : wd.cell? ⟨b4, o4 + i, none⟩ = some (.int .i64 (u : Nat)) := (cell_keep (by rw [hhd])).trans p4
                  have hszd : Lb < wd.heap.size := by rw [hhd]; exact hsz
                  have hDd : D ≤ wd.heap.size := by omega
                  clear hOd hwd hhd Hidx q1 p4 hur cL fL
                  go_upto_region 22 with fail
                  go_wp2_with (refine wpList_app EInt rfl rfl rfl rfl ti_ints HO7.out rfl HS7.out ?_ ?_ ?_ ?_)
                  · simp [maxLen]; omega
                  · simp; omega
                  · simp; omega
                  · intro v8 w8 ho8 hg8 hv8 hb8
                    have hlist : natI (b ++ [x]) ++ [(u : Int)] = natI (b ++ [x] ++ [u]) := by unfold natI; simp
                    rw [hlist] at ho8
                    have hall : ∀ q, q < Lb + 1 → w8.heap[q]? = wr.heap[q]? := fun q hq => by
                      rw [hb8.block q hq, Hb67.out.block q (by omega), Hhd.out]
                    have cL : w8.cell? ⟨Lb, 0, none⟩ = some (.int .i64 (r : Nat)) := by rw [cell_keep (hall Lb (Nat.lt_succ_self _))]; simp [World.cell?, hhL.out]
                    have fL : w8.frozen? ⟨Lb, 0, none⟩ = false := (World.frozen?_of_block (a := ⟨Lb, 0, none⟩) (hall Lb (Nat.lt_succ_self _))).trans (by simp [World.frozen?, hhL.out])
                    have hh9 : RowKit.Hid ((w8.setCell ⟨Lb, 0, none⟩ (.int .i64 ((r : Int) - 1))).heap[Lb]? = some (.cells #[.int .i64 (((r - 1 : Nat)) : Int)] 3 (0, 0))) := Lib.hid (by
                      have := heap_set (w := w8) (g := Lb) (by rw [hall Lb (Nat.lt_succ_self _)]; exact hhL.out) 0 (.int .i64 ((r : Int) - 1))
                      rw [show (((r - 1 : Nat)) : Int) = (r : Int) - 1 by omega]
                      simpa using this)
                    have ho9 : RowKit.Hid (Own EInt 3 (Lb + 1) (w8.setCell ⟨Lb, 0, none⟩ (.int .i64 ((r : Int) - 1))) v8 (natI (b ++ [x] ++ [u]))) := Lib.hid (OwnI.stay ho8 fun g hg => heap_setOther _ (by have := (ho8.lt g hg).1; omega) _ _)
                    have hlow9 : RowKit.Hid (∀ q, q < Lb → (w8.setCell ⟨Lb, 0, none⟩ (.int .i64 ((r : Int) - 1))).heap[q]? = w6.heap[q]?) := Lib.hid fun q hq => by
                      rw [heap_setOther _ (by omega), hall q (by omega)]; exact hlow.out q hq
                    have hbn : RowKit.Hid (Below D w2 (w8.setCell ⟨Lb, 0, none⟩ (.int .i64 ((r : Int) - 1)))) := Lib.hid (((Hbd.out.trans (Hb67.out.mono hDd)).trans (hb8.mono (by omega))).setCell (p := ⟨Lb, 0, none⟩) (by show D ≤ Lb; omega) _)
                    have hszn : RowKit.Hid (Lb < (w8.setCell ⟨Lb, 0, none⟩ (.int .i64 ((r : Int) - 1))).heap.size) := Lib.hid (by have h1 := hb8.size; have h2 := Hb67.out.size; simp at h1 h2 ⊢; omega)
                    obtain ⟨a9, c9, rfl, _, _, _, _⟩ := ho8.shape ((natI (b ++ [x])).length + 1) (by rw [← hlist]; simp)
                    clear ho8 hg8 hv8 hb8 hall hlist hlow HO7 HS7 hO hhL hGd
                    go_wp2_with fail
                    go_roundg r
                    case measure => rw [hgm.out]; omega
                    case rel => exact ⟨b ++ [x], u, r - 1, Lib.hid (by omega), rfl, ho9, hh9, Hnext, Lib.hid (by have := hlen.out; rw [List.length_append, List.length_singleton]; omega), hlow9, hbn.out, hszn.out⟩
                · have hr00 : r = 0 := by omega
                  subst hr00
                  have hbest : RowKit.Hid (Gr.Bst R (k + 1) (b ++ [x])) := Lib.hid (hBst.out.new hSt.out (by exact .inl hbe) hGd.out (by have := hlen.out; omega))
                  have hVn : RowKit.Hid (BestV D wr u6 (b ++ [x])) := Lib.hid (.inr ⟨by simp, hO.out.base (by omega)⟩)
                  have hln : (b ++ [x]).length ≤ N + 1 := by have := hlen.out; omega
                  clear hO hhL hGd hlen hlow hcapt
                  go_wp2_with fail
                  go_roundg (N - (k + 1))
                  case measure => rw [hgn.out]; omega
                  case rel => exact ⟨k + 1, b ++ [x], Lib.hid rfl, by omega, by go_num, hVn, hbest, hln, hbq⟩
            · obtain ⟨nb, hnb⟩ : ∃ nb, nb = best.length := ⟨_, rfl⟩
              have hnb0 : 0 < nb := by rw [hnb]; exact List.length_pos_iff.2 hbn
              obtain ⟨a0, c0, rfl, hc0, hm0, hr0s, hz4⟩ := hob.shape nb (by rw [natI_len]; exact hnb)
              obtain ⟨b0, o0, rfl, hz1, hz2, hz3⟩ := SlI.at hr0s.2 0 (by rw [natI_len, ← hnb]; exact hnb0)
              have Hnb := Lib.hid hnb
              have hnbN : (nb : Int) ≤ 1000 := by omega
              clear hz1 hz2 hz3 hz4 hr0s hob hnb
              by_cases hlong : (nb : Int) ≤ (r0 : Int) + 1
              · have hB1 : RowKit.Hid (Gr.Bst R (k + 1) best) := Lib.hid (hBst.out.long hbn hSt.out (by have := Hnb.out; omega))
                clear hBst
                go_wp2_with fail
                go_roundg (N - (k + 1))
                case measure => rw [hgn.out]; omega
                case rel => exact ⟨k + 1, best, Lib.hid rfl, by omega, by go_num, HVb, hB1, hbl, Hbwr.out⟩
              · clear HVb HV6
                have hkr : -9223372036854775808 ≤ (k : Int) ∧ (k : Int) ≤ 9223372036854775807 := by omega
                have hb7 := alloc_below wr (.cells #[.int .i64 k] 3)
                have ho7 : Own EInt 3 (Lb + 1) (wr.alloc (.cells #[.int .i64 k] 3)) (.slice (some ⟨wr.heap.size, 0, none⟩) 1 1) (natI ([] ++ [k])) := (own_one wr k).base (by omega)
                obtain ⟨w7, hw7⟩ : ∃ x, x = wr.alloc (.cells #[.int .i64 k] 3) := ⟨_, rfl⟩
                have hw7' := hw7.symm
                rw [← hw7] at hb7 ho7
                have hh7 : RowKit.Hid (w7.heap[Lb]? = some (.cells #[.int .i64 (r0 : Nat)] 3 (0, 0))) := Lib.hid (by rw [hb7.block Lb hwL]; exact hhL.out)
                have hlow7 : RowKit.Hid (∀ q, q < Lb → w7.heap[q]? = w6.heap[q]?) := Lib.hid fun q hq => (hb7.block q (by omega)).trans (hg.out.block q (by omega) (fun e => by injection e with e; omega))
                have hbw7 : Below D w2 w7 := Hbwr.out.trans (hb7.mono (by omega))
                have hsz7 : Lb < w7.heap.size := Nat.lt_of_lt_of_le hwL hb7.size
                have Ho7 := Lib.hid ho7
                have hgd7 : RowKit.Hid (Gr.Gd R k (r0 + 1) ([] ++ [k])) := Lib.hid (Gr.Gd.start hSt.out)
                clear hw7 hb7 ho7 hkr
                go_upto_region 17 with fail
                clear hw7' cL fL cA hnq
                go_wp2_with fail
                clear hhL hg HVr
                obtain ⟨wq, rfl⟩ : ∃ x : World, x = wr := ⟨_, rfl⟩
                go_loopg [6, 12] (r0 + 1) (fun gm v at_ w' => ∃ (b : List Nat) (x r : Nat), RowKit.Hid (gm = r + 1) ∧ at_ = .int .i64 x ∧ RowKit.Hid (Own EInt 3 (Lb + 1) w' v (natI (b ++ [x]))) ∧ RowKit.Hid (w'.heap[Lb]? = some (.cells #[.int .i64 (r : Nat)] 3 (0, 0))) ∧ RowKit.Hid (Gr.Gd R k (r0 + 1) (b ++ [x])) ∧ RowKit.Hid ((b ++ [x]).length + r = r0 + 1) ∧ RowKit.Hid (∀ q, q < Lb → w'.heap[q]? = w6.heap[q]?) ∧ Below D w2 w' ∧ Lb < w'.heap.size)
                case atStart => exact ⟨[], k, r0, Lib.hid rfl, rfl, Ho7, hh7, hgd7, Lib.hid (by simp; omega), hlow7, hbw7, hsz7⟩
                case round =>
                  clear Ho7 hh7 hgd7 hlow7 hbw7 hsz7
                  obtain ⟨b, x, r, hgm, rfl, hO, hhL, hGd, hlen, hlow, hbq, hsz⟩ := hrel
                  have cL : wr.cell? ⟨Lb, 0, none⟩ = some (.int .i64 (r : Nat)) := by simp [World.cell?, hhL.out]
                  have fL : wr.frozen? ⟨Lb, 0, none⟩ = false := by simp [World.frozen?, hhL.out]
                  have hcapt : Capt wr A Lb E N out (r : Nat) := ⟨by rw [cell_keep (hlow.out A hAL)]; simp [World.cell?, HhA.out], cL, Hv6.out.keep (hlow.out E (by omega))⟩
                  have hrN : r ≤ N := by have := hlen.out; rw [List.length_append, List.length_singleton] at this; omega
                  by_cases hr0 : 0 < r
                  · have hri : (0 : Int) < (r : Int) := by omega
                    have hrj : (r : Int) ≤ 1000 := by omega
                    have hiff := Gr.gd_iff hbd hSt.out Haw.out hGd.out (by have := hlen.out; omega)
                    have hLr : r0 + 1 - (b ++ [x]).length = r := by have := hlen.out; omega
                    rw [hLr] at hiff
                    obtain ⟨v0, hv0⟩ := hGd.out.some (by have := hlen.out; omega)
                    obtain ⟨hm0, he0⟩ := (hiff v0).1 hv0
                    obtain ⟨i, hi, hei, hni⟩ := first_idx out (r : Int) hm0 he0
                    have hxN : x < N := by
                      obtain ⟨d, hd, _, hpre⟩ := hGd.out.ex
                      exact hd.bd hbd x (List.IsPrefix.subset hpre (by simp))
                    have hnext : Gr.Gd R k (r0 + 1) (b ++ [x] ++ [(Gr.rowN N R x)[i]]) := hGd.out.next ((hiff _).2 ⟨List.getElem_mem hi, hei⟩) fun v' hv' hext => by
                      obtain ⟨h1, h2⟩ := (hiff v').1 hext
                      obtain ⟨j, hj, rfl⟩ := List.mem_iff_getElem.1 h1
                      rcases Nat.lt_or_ge j i with h | h
                      · exact hni j h h2
                      · by_cases e : j = i
                        · subst e; omega
                        · have := List.pairwise_iff_getElem.1 (Gr.row_rise N R x) i j hi hj (by omega); omega
                    have hvN : (Gr.rowN N R x)[i] < N := (Gr.mem_row.1 (List.getElem_mem hi)).1
                    have q1 := (HR.out.lowW HD.out.symm hbq).cell x hxN
                    obtain ⟨a3, c3, hv3, hc31, hc32, hs31⟩ := (HR.out.lowW HD.out.symm hbq).row x hxN
                    have hrl := Gr.row_len N R x
                    have hrl2 := Gr.rowI_len N R x
                    rw [hv3, hrl2] at q1
                    rw [hrl2] at hc31
                    obtain ⟨b4, o4, rfl, hcs⟩ := SlI.all hs31 (by rw [hrl2]; omega)
                    have hcs2 : ∀ j (hj : j < (Gr.rowN N R x).length), wr.cell? ⟨b4, o4 + j, none⟩ = some (.int .i64 ((Gr.rowN N R x)[j] : Nat)) := fun j hj => by
                      rw [hcs j (by rw [hrl2]; exact hj)]; simp [Gr.rowI]
                    have hidx := index_first A Lb E N out (r : Nat) wr hcapt b4 o4 c3 (Gr.rowN N R x) (fun y hy => (Gr.mem_row.1 hy).1) hcs2 (by omega) i hi hei (fun j hj => hni j hj)
                    have p4 := hcs2 i hi
                    obtain ⟨u, hu⟩ : ∃ u, u = (Gr.rowN N R x)[i] := ⟨_, rfl⟩
                    rw [← hu] at p4 hnext hvN
                    obtain ⟨Lx, hLx⟩ : ∃ y, y = (Gr.rowN N R x).length := ⟨_, rfl⟩
                    rw [← hLx] at q1 hidx hrl hc31 hi
                    have hi0 : (0 : Int) ≤ (i : Int) := by omega
                    have hi1 : (i : Int) < (Lx : Int) := by omega
                    have hx0 : (0 : Int) ≤ (x : Int) := by omega
                    have hx1 : (x : Int) < (N : Int) := by omega
                    have Hidx := Lib.hid hidx
                    have Hnext := Lib.hid hnext
                    have hol : (natI (b ++ [x])).length ≤ 1000 := by rw [natI_len]; have := hlen.out; omega
                    clear hiff hLr hv0 hm0 he0 hei hni hs31 hv3 hcs hcs2 hidx hu hLx hnext hrl2 hcapt
                    clear v0
                    go_wp2_with fail
                    refine (Hidx.out).mono ?_
                    rintro e w' ⟨rfl, qd, rfl⟩
                    obtain ⟨wd, hwd⟩ : ∃ y, y = wr.drewN qd := ⟨_, rfl⟩
                    have hhd : wd.heap = wr.heap := by rw [hwd, drewN_heap]
                    rw [← hwd]
                    have hur : -9223372036854775808 ≤ (u : Int) ∧ (u : Int) ≤ 9223372036854775807 := by omega
                    have hOd : Own EInt 3 (Lb + 1) wd u6 (natI (b ++ [x])) := hO.out.keep fun q _ => by rw [hhd]
                    have Hb67 := Lib.hid (alloc_below wd (.cells #[.int .i64 u] 3))
                    have HO7 := Lib.hid (hOd.below Hb67.out)
                    have HS7 : RowKit.Hid (Sl EInt (fun q => some q ≠ u6.ownBlock) (wd.alloc (.cells #[.int .i64 u] 3)) (some ⟨wd.heap.size, 0, none⟩) [(u : Int)]) := Lib.hid (sl_one (heap_alloc_new wd _) ⟨rfl, hur⟩ hOd.fresh)
                    have Hbd : RowKit.Hid (Below D w2 wd) := Lib.hid (hbq.trans ⟨by rw [hwd]; rfl, by rw [hwd]; rfl, by rw [hwd]; rfl, by rw [hhd]; exact Nat.le_refl _, fun q _ => by rw [hhd]⟩)
                    have Hhd := Lib.hid hhd
                    have q2 : wd.cell? ⟨B, x, none⟩ = some (.slice (some ⟨b4, o4, none⟩) Lx c3) := (cell_keep (by rw [hhd])).trans q1
                    have p5 : wd.cell? ⟨b4, o4 + i, none⟩ = some (.int .i64 (u : Nat)) := (cell_keep (by rw [hhd])).trans p4
                    have hszd : Lb < wd.heap.size := by rw [hhd]; exact hsz
                    have hDd : D ≤ wd.heap.size := by omega
                    clear hOd hwd hhd Hidx q1 p4 hur cL fL
                    go_upto_region 22 with fail
                    go_wp2_with (refine wpList_app EInt rfl rfl rfl rfl ti_ints HO7.out rfl HS7.out ?_ ?_ ?_ ?_)
                    · simp [maxLen]; omega
                    · simp; omega
                    · simp; omega
                    · intro v8 w8 ho8 hg8 hv8 hb8
                      have hlist : natI (b ++ [x]) ++ [(u : Int)] = natI (b ++ [x] ++ [u]) := by unfold natI; simp
                      rw [hlist] at ho8
                      have hall : ∀ q, q < Lb + 1 → w8.heap[q]? = wr.heap[q]? := fun q hq => by
                        rw [hb8.block q hq, Hb67.out.block q (by omega), Hhd.out]
                      have cL : w8.cell? ⟨Lb, 0, none⟩ = some (.int .i64 (r : Nat)) := by rw [cell_keep (hall Lb (Nat.lt_succ_self _))]; simp [World.cell?, hhL.out]
                      have fL : w8.frozen? ⟨Lb, 0, none⟩ = false := (World.frozen?_of_block (a := ⟨Lb, 0, none⟩) (hall Lb (Nat.lt_succ_self _))).trans (by simp [World.frozen?, hhL.out])
                      have hh9 : RowKit.Hid ((w8.setCell ⟨Lb, 0, none⟩ (.int .i64 ((r : Int) - 1))).heap[Lb]? = some (.cells #[.int .i64 (((r - 1 : Nat)) : Int)] 3 (0, 0))) := Lib.hid (by
                        have := heap_set (w := w8) (g := Lb) (by rw [hall Lb (Nat.lt_succ_self _)]; exact hhL.out) 0 (.int .i64 ((r : Int) - 1))
                        rw [show (((r - 1 : Nat)) : Int) = (r : Int) - 1 by omega]
                        simpa using this)
                      have ho9 : RowKit.Hid (Own EInt 3 (Lb + 1) (w8.setCell ⟨Lb, 0, none⟩ (.int .i64 ((r : Int) - 1))) v8 (natI (b ++ [x] ++ [u]))) := Lib.hid (OwnI.stay ho8 fun g hg => heap_setOther _ (by have := (ho8.lt g hg).1; omega) _ _)
                      have hlow9 : RowKit.Hid (∀ q, q < Lb → (w8.setCell ⟨Lb, 0, none⟩ (.int .i64 ((r : Int) - 1))).heap[q]? = w6.heap[q]?) := Lib.hid fun q hq => by
                        rw [heap_setOther _ (by omega), hall q (by omega)]; exact hlow.out q hq
                      have hbn : RowKit.Hid (Below D w2 (w8.setCell ⟨Lb, 0, none⟩ (.int .i64 ((r : Int) - 1)))) := Lib.hid (((Hbd.out.trans (Hb67.out.mono hDd)).trans (hb8.mono (by omega))).setCell (p := ⟨Lb, 0, none⟩) (by show D ≤ Lb; omega) _)
                      have hszn : RowKit.Hid (Lb < (w8.setCell ⟨Lb, 0, none⟩ (.int .i64 ((r : Int) - 1))).heap.size) := Lib.hid (by have h1 := hb8.size; have h2 := Hb67.out.size; simp at h1 h2 ⊢; omega)
                      obtain ⟨a9, c9, rfl, _, _, _, _⟩ := ho8.shape ((natI (b ++ [x])).length + 1) (by rw [← hlist]; simp)
                      clear ho8 hg8 hv8 hb8 hall hlist hlow HO7 HS7 hO hhL hGd
                      go_wp2_with fail
                      go_roundg r
                      case measure => rw [hgm.out]; omega
                      case rel => exact ⟨b ++ [x], u, r - 1, Lib.hid (by omega), rfl, ho9, hh9, Hnext, Lib.hid (by have := hlen.out; rw [List.length_append, List.length_singleton]; omega), hlow9, hbn.out, hszn.out⟩
                  · have hr00 : r = 0 := by omega
                    subst hr00
                    have hbest : RowKit.Hid (Gr.Bst R (k + 1) (b ++ [x])) := Lib.hid (hBst.out.new hSt.out (by have := Hnb.out; exact .inr (by omega)) hGd.out (by have := hlen.out; omega))
                    have hVn : RowKit.Hid (BestV D wr u6 (b ++ [x])) := Lib.hid (.inr ⟨by simp, hO.out.base (by omega)⟩)
                    have hln : (b ++ [x]).length ≤ N + 1 := by have := hlen.out; omega
                    clear hO hhL hGd hlen hlow hcapt
                    go_wp2_with fail
                    go_roundg (N - (k + 1))
                    case measure => rw [hgn.out]; omega
                    case rel => exact ⟨k + 1, b ++ [x], Lib.hid rfl, by omega, by go_num, hVn, hbest, hln, hbq⟩
    · have hki : ¬ ((k : Int) < (N : Int)) := by omega
      obtain rfl : N = k := by omega
      have hcs := hBst.out.fin hbd
      rw [HRe.out] at hcs
      have hpost : CycPost B N (Gr.T N l) w (.returned vb) wo := ⟨vb, best, rfl, hcs, hV.out.own.base hBD, Hb.out.trans (hbw.mono hBD)⟩
      have Hpost := Lib.hid hpost
      clear hpost hcs hV hBst
      go_wp2_with fail
      go_ret
      exact Hpost.out
end Go.Proofs.Yticpbiccgnfecaa

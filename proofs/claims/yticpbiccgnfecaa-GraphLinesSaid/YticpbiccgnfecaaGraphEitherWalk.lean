
/-
  The walk of the law 'GraphEither'.
-/
import Derived.Test.YticpbiccgnfecaaGraX
namespace Go.Proofs.Yticpbiccgnfecaa
open Go.RowKit
set_option linter.unusedVariables false

namespace Gr
theorem Lk.at {R : Rel} : ∀ {l : List Nat} {g : Nat}, Lk R l g → ∀ i (hi : i < l.length), R l[i] (l.getD (i + 1) g) = true
  | [], _, _, i, hi => by simp at hi
  | u :: r, g, h, 0, _ => by
    have := h.1
    cases r with
    | nil => simpa using this
    | cons v r => simpa using this
  | u :: r, g, h, i + 1, hi => by
    have := Lk.at h.2 i (by simpa using hi)
    simpa using this
theorem isC_of_clo {n : Nat} {R : Rel} (hR : Bd n R) {c : List Nat} (h : Clo R c) (hn : c.Nodup) : isC n R (natI c) := by
  have hg : ∀ i, (natI c).getD i 0 = ((c.getD i 0 : Nat) : Int) := fun i => by
    unfold natI
    simp only [List.getD_eq_getElem?_getD, List.getElem?_map]
    cases c[i]? <;> simp
  refine ⟨fun i hi => ?_, by rw [natI_len]; exact h.pos⟩
  rw [natI_len] at hi
  have hci : c.getD i 0 = c[i] := by simp [List.getD, hi]
  have hlt := h.bd hR c[i] (List.getElem_mem hi)
  have hat := Lk.at h.2 i hi
  have hnx : nxt (natI c) i = ((c.getD (i + 1) (c.headD 0) : Nat) : Int) := by
    unfold nxt
    rw [natI_len, hg]
    congr 1
    by_cases e : i + 1 < c.length
    · rw [Nat.mod_eq_of_lt e]; simp [List.getD, e]
    · have e2 : i + 1 = c.length := by omega
      rw [e2, Nat.mod_self]
      cases c with
      | nil => simp at hi
      | cons a r => simp [List.getD]
  refine ⟨?_, ?_, ?_⟩
  · rw [hg, hci]; omega
  · rw [hg, hci, hnx, Int.toNat_natCast]
    exact mem_rowI.2 ⟨_, rfl, (hR _ _ hat).2, hat⟩
  · rw [hg, hci]
    intro hm
    have e : (natI c).take i = natI (c.take i) := by simp [natI]
    rw [e] at hm
    obtain ⟨x, hx, he⟩ := List.mem_map.1 hm
    have : x = c[i] := by omega
    rw [this] at hx
    exact take_fresh hn hi hx
theorem either {n : Nat} {R : Rel} (hR : Bd n R) {c : List Nat} (hc : CycS R c) : (topo n R n []).isSome = !decide (0 < c.length) := by
  cases h : topo n R n [] with
  | some o =>
    obtain ⟨h1, h2⟩ := topo_ord hR (Ord.nil n R) h
    have h3 := h1.noClo hR (by simpa using h2)
    rcases hc with ⟨rfl, _⟩ | hc
    · simp
    · exact absurd hc.clo (h3 c)
  | none =>
    obtain ⟨d, hd⟩ := topo_clo (by simp) h
    rcases hc with ⟨_, h1⟩ | hc
    · exact absurd hd (h1 d)
    · have := hc.clo.pos; simp [this]
/-- the place of each node: of the first j of the order -/
def plc (o : List Nat) (j v : Nat) : Int := if v ∈ o.take j then ((o.idxOf v + 1 : Nat) : Int) else 0
theorem plc_zero (o : List Nat) (v : Nat) : plc o 0 v = 0 := by simp [plc]
theorem plc_succ {o : List Nat} (hn : o.Nodup) {j : Nat} (hj : j < o.length) (v : Nat) : plc o (j + 1) v = if v = o[j] then (j : Int) + 1 else plc o j v := by
  have hmem : v ∈ o.take (j + 1) ↔ v ∈ o.take j ∨ v = o[j] := by rw [← List.take_append_getElem hj, List.mem_append, List.mem_singleton]
  have hx : o.idxOf o[j] = j := hn.idxOf_getElem j hj
  unfold plc
  by_cases e : v = o[j]
  · rw [if_pos e, if_pos (hmem.2 (.inr e)), e, hx]; simp
  · rw [if_neg e]
    by_cases hm : v ∈ o.take j
    · rw [if_pos (hmem.2 (.inl hm)), if_pos hm]
    · rw [if_neg (fun h => by rcases hmem.1 h with h | h; exact hm h; exact e h), if_neg hm]
theorem ord_all {n : Nat} {R : Rel} {o : List Nat} (h : Ord n R o) (hl : o.length = n) {v : Nat} (hv : v < n) : v ∈ o := by
  refine Classical.byContradiction fun hn => ?_
  have := pigeon_lt (l := v :: o) (n := n) (List.nodup_cons.2 ⟨hn, h.nd⟩) fun x hx => by
    rcases List.mem_cons.1 hx with rfl | hx
    · exact hv
    · exact h.lt x hx
  simp at this; omega
theorem plc_all {n : Nat} {R : Rel} {o : List Nat} (h : Ord n R o) (hl : o.length = n) {v : Nat} (hv : v < n) : plc o n v = ((o.idxOf v + 1 : Nat) : Int) := by
  unfold plc
  rw [List.take_of_length_le (by omega), if_pos (ord_all h hl hv)]
theorem idx_lt {n : Nat} {R : Rel} {o : List Nat} (h : Ord n R o) (hl : o.length = n) {v : Nat} (hv : v < n) : o.idxOf v < n := by
  rw [← hl]; exact List.idxOf_lt_length_of_mem (ord_all h hl hv)
end Gr

set_option maxRecDepth 8192 in
set_option maxHeartbeats 3200000 in
theorem law_GraphEither (n : Int) (a1 : Option Addr) (c1 : Nat) (l : List (Int × Int)) (W : World) (hn : -9223372036854775808 ≤ n ∧ n ≤ 9223372036854775807) (hs1 : Sl EArc (fun _ => True) W a1 l) (hc1 : l.length ≤ c1) (hm1 : c1 ≤ maxLen) :
    Calls Try.prog 8 #[.int .i64 n, .slice a1 l.length c1] W fun e W' => e = .returned (.bool true) ∧ Below W.heap.size W W' := by
  obtain ⟨n0, n1⟩ := hn
  unfold maxLen at hm1
  have Hs1 := Lib.hid hs1
  clear hs1
  go_enter Try.func8, Try.ntmps8
  go_wp2_with fail
  refine (law07_found _ _ rfl).mono ?_
  rintro e w3 ⟨rfl, hb3⟩
  have Hb03 := Lib.hid hb3
  clear hb3
  go_wp2_with fail
  refine (law07_ordered _ _ rfl).mono ?_
  rintro e w4 ⟨rfl, hb4⟩
  have Hb04 := Lib.hid (Hb03.out.trans (hb4.mono Hb03.out.size))
  clear hb4
  by_cases k0 : 80 < n
  · go_wp2_with fail
    go_ret
    exact ⟨rfl, Hb04.out⟩
  by_cases k1 : (300 : Int) < (l.length : Int)
  · go_wp2_with fail
    go_ret
    exact ⟨rfl, Hb04.out⟩
  obtain ⟨N, hN⟩ : ∃ N : Nat, N = (max n 0).toNat := ⟨_, rfl⟩
  have hN2 : min (max n 0) 400 = (N : Int) := by omega
  have hN3 : N ≤ 80 := by omega
  have hN4 : (N : Int) ≤ 80 := by omega
  have hN5 : 0 ≤ (N : Int) := by omega
  have hmax : max n 0 = (N : Int) := by omega
  have HN2 := Lib.hid hN2
  have hll : l.length ≤ 300 := by omega
  clear hN hN2
  go_wp2_with fail
  refine (law07_arcs _ _ _ _ l _ rfl ⟨rfl, Hs1.out.below (by decide) Hb04.out⟩ (by omega)).mono ?_
  rintro e w5 ⟨v5, rfl, ho5, hb5⟩
  obtain ⟨a5, c5, rfl, hc5, hm5, hr5, _⟩ := ho5.shape l.length rfl
  have Hb05 := Lib.hid (Hb04.out.trans (hb5.mono Hb04.out.size))
  have Hr5 := Lib.hid hr5
  clear ho5 hb5 hr5
  go_wp2_with fail
  refine (graph_Cycle _ n N _ _ _ l _ rfl Hr5.out HN2.out (by omega)).mono ?_
  rintro e w6 ⟨v6, cy, rfl, hcy, ho6, hb6⟩
  have Hb06 := Lib.hid (Hb05.out.trans (hb6.mono Hb05.out.size))
  have Hr56 := Lib.hid (Hr5.out.below (by decide) hb6)
  have Ho6 := Lib.hid ho6
  have Hcy := Lib.hid hcy
  clear hb6 ho6 hcy
  go_wp2_with fail
  refine (graph_Order _ n N _ _ _ l _ rfl Hr56.out HN2.out (by omega)).mono ?_
  rintro e w7 ⟨v7, rfl, ho7, hb7⟩
  have Hb07 := Lib.hid (Hb06.out.trans (hb7.mono Hb06.out.size))
  have Hr57 := Lib.hid (Hr56.out.below (by decide) hb7)
  have Ho67 := Lib.hid (Ho6.out.below hb7)
  have hei := Gr.either (Gr.T_bd N l) Hcy.out
  obtain ⟨K1, hK1⟩ : ∃ K, K = cy.length := ⟨_, rfl⟩
  have hlcy := cyc_len (Gr.T_bd N l) Hcy.out
  obtain ⟨a6, c6, rfl, hc6, hm6, hr6, _⟩ := Ho67.out.shape K1 (by rw [natI_len]; exact hK1)
  have Hr6 := Lib.hid hr6
  have Ho7 := Lib.hid ho7
  rw [← hK1] at hei hlcy
  have HK1 := Lib.hid hK1
  clear hb7 ho7 hr6 hK1 Ho6
  go_upto_region 9 with fail
  by_cases hk : 0 < K1
  · have hd : decide (0 < K1) = true := by simpa using hk
    have hkI : (0 : Int) < (K1 : Int) := by omega
    have hisC : decide (Gr.isC N (Gr.T N l) (natI cy)) = true := by
      rcases Hcy.out with ⟨h, _⟩ | h
      · have := HK1.out; rw [h] at this; simp at this; omega
      · exact decide_eq_true (Gr.isC_of_clo (Gr.T_bd N l) h.clo (Gr.nodup_of_least h.clo h.min))
    have HisC := Lib.hid hisC
    have hNm : RowKit.Hid (min (max (N : Int) 0) 400 = (N : Int)) := Lib.hid (by omega)
    clear hisC hei hmax
    rw [hd]
    go_wp2_with fail
    refine (graph_Is _ N N _ _ _ l _ K1 _ (natI cy) _ rfl Hr57.out Hr6.out hNm.out (by omega) (by omega) hc6 hm6).mono ?_
    rintro e w8 ⟨rfl, hb8⟩
    rw [HisC.out]
    go_wp2_with fail
    go_ret
    exact ⟨rfl, Hb07.out.trans (hb8.mono Hb07.out.size)⟩
  · have hd : decide (0 < K1) = false := by simpa using hk
    have hkI : ¬ (0 : Int) < (K1 : Int) := by omega
    rw [hd] at hei ⊢
    obtain ⟨o, ho⟩ : ∃ o, Gr.topo N (Gr.T N l) N [] = some o := by
      cases h : Gr.topo N (Gr.T N l) N [] with
      | none => rw [h] at hei; simp at hei
      | some o => exact ⟨o, rfl⟩
    obtain ⟨hord, hol0⟩ := Gr.topo_ord (Gr.T_bd N l) (Gr.Ord.nil N _) ho
    have hol : o.length = N := by simpa using hol0
    have ho7 := Ho7.out
    rw [ho] at ho7
    obtain ⟨a7, c7, rfl, hc7, hm7, hr7, hx7⟩ := ho7.shape N (by rw [show ((some o).getD [] : List Nat) = o from rfl, natI_len, hol])
    have Hr7 := Lib.hid (show RS EInt w7 a7 N (natI o) from hr7)
    have Hord := Lib.hid hord
    have Hol := Lib.hid hol
    have hmk := run_make_row' (P := Try.prog) 23 3 (.int .i64 0) 8 Try.underlying23 (by kernel_rfl) rfl .i64 .i64 N (by omega) (by omega)
    have hv8 := Vec.made w7 (.int .i64 0) 3 N
    have hb8 := alloc_below w7 (.cells (madeCells #[.int .i64 0] N) 3)
    obtain ⟨w8, hw8⟩ : ∃ x, x = w7.alloc (.cells (madeCells #[.int .i64 0] N) 3) := ⟨_, rfl⟩
    have hex8 := hw8.symm
    rw [← hw8] at hv8 hb8
    obtain ⟨E, hE⟩ : ∃ E, E = w7.heap.size := ⟨_, rfl⟩
    rw [← hE] at hv8 hb8
    have HE := Lib.hid hE
    have hE' := hE.symm
    have Hv8 := Lib.hid (hv8.congr (f' := fun v => .int .i64 (Gr.plc o 0 v)) fun v _ => by rw [Gr.plc_zero])
    clear hei hmax ho hord hol0 hol ho7 hr7 hx7 hw8 hv8 hE Ho7 hd hk
    go_upto_region 16 with fail
    clear hex8 hmk hE'
    go_wp2_with fail
    go_loopw [61] (fun i wr => ∃ j : Nat, j ≤ N ∧ i = .int .i64 j ∧ RowKit.Hid (Vec wr E 3 N (fun v => .int .i64 (Gr.plc o j v))) ∧ Below E w7 wr) (fun i _ => N - (intOf i).toNat)
    case atStart => exact ⟨0, Nat.zero_le _, rfl, Hv8, hb8⟩
    case round =>
      clear Hv8 hb8
      obtain ⟨j, hj, rfl, hV, hbw⟩ := hrel
      by_cases hjl : j < N
      · have hji : (j : Int) < (N : Int) := by omega
        have hj0 : (0 : Int) ≤ (j : Int) := by omega
        have hs7 := (Hr7.out.2).below (by decide) (show Below w7.heap.size w7 wr by rw [← HE.out]; exact hbw)
        have hjo : j < o.length := by rw [Hol.out]; exact hjl
        obtain ⟨b4, o4, hae, hcs⟩ := SlI.all hs7 (by rw [natI_len]; omega)
        have p4 := hcs j (by rw [natI_len]; exact hjo)
        rw [natI_get] at p4
        have hoN : o[j] < N := Hord.out.lt _ (List.getElem_mem hjo)
        have hpl := Gr.plc_succ Hord.out.nd hjo
        obtain ⟨u, hu⟩ : ∃ u, u = o[j] := ⟨_, rfl⟩
        rw [← hu] at p4 hoN hpl
        have hu0 : (0 : Int) ≤ (u : Int) := by omega
        have hu1 : (u : Int) < (N : Int) := by omega
        have y1 := hV.out.cell hoN
        have yf := hV.out.free u
        have hVn := Lib.hid ((hV.out.set u (.int .i64 ((j : Int) + 1))).congr (f' := fun v => .int .i64 (Gr.plc o (j + 1) v)) fun v _ => by
          unfold updV
          rw [hpl]
          by_cases e : v = u
          · rw [if_pos e, if_pos e]
          · rw [if_neg e, if_neg e])
        have hbn := Lib.hid (hbw.setCell (p := ⟨E, u, none⟩) (Nat.le_refl _) (.int .i64 ((j : Int) + 1)))
        clear hs7 hu hpl hcs hV
        subst hae
        go_wp2_with fail
        go_roundw
        case rel => exact ⟨j + 1, by omega, by go_num, hVn, hbn.out⟩
        case measure => simp [intOf]; omega
      · have hji : ¬ ((j : Int) < (N : Int)) := by omega
        obtain rfl : N = j := by omega
        have hV2 : RowKit.Hid (Vec wr E 3 N (fun v => .int .i64 ((o.idxOf v + 1 : Nat) : Int))) := Lib.hid (hV.out.congr fun v hv => by rw [Gr.plc_all Hord.out Hol.out hv])
        clear hV hjl hji hj
        go_wp2_with fail
        go_loopw [81] (fun i w2 => ∃ j : Nat, j ≤ l.length ∧ i = .int .i64 j ∧ RowKit.Hid (Vec w2 E 3 N (fun v => .int .i64 ((o.idxOf v + 1 : Nat) : Int))) ∧ Below E w7 w2) (fun i _ => l.length - (intOf i).toNat)
        case atStart => exact ⟨0, Nat.zero_le _, rfl, hV2, hbw⟩
        case round =>
          clear hV2 hbw
          obtain ⟨j, hj, rfl, hV, hbw⟩ := hrel
          by_cases hjl : j < l.length
          · have hji : (j : Int) < (l.length : Int) := by omega
            have hj0 : (0 : Int) ≤ (j : Int) := by omega
            have hsr := (Hs1.out.below (by decide) Hb07.out).below (by decide) (show Below w7.heap.size w7 wr by rw [← HE.out]; exact hbw)
            obtain ⟨b1, o1, hae, p1, p2, r1, r2⟩ := sl_arc hsr j hjl
            have hlm : l[j] ∈ l := List.getElem_mem hjl
            obtain ⟨x, hx⟩ : ∃ x, x = l[j] := ⟨_, rfl⟩
            rw [← hx] at p1 p2 r1 r2 hlm
            obtain ⟨x1, x2⟩ := x
            dsimp only at p1 p2 r1 r2
            have Hlm := Lib.hid hlm
            obtain ⟨w4, hw4⟩ : ∃ x, x = wr.alloc (.cells #[.int .i64 x1, .int .i64 x2] 27) := ⟨_, rfl⟩
            have hb4 : Below wr.heap.size wr w4 := by subst hw4; exact alloc_below wr _
            have hh4 : w4.heap[wr.heap.size]? = some (.cells #[.int .i64 x1, .int .i64 x2] 27 (0, 0)) := by subst hw4; exact heap_alloc_new wr _
            have hVw := hV.out.lt
            have hV4 := Lib.hid (hV.out.below hb4)
            have hbw4 : Below E w7 w4 := hbw.trans (hb4.mono (by omega))
            obtain ⟨s0, hs0⟩ : ∃ s, s = wr.heap.size := ⟨_, rfl⟩
            rw [← hs0] at hh4
            have z0 : w4.cell? ⟨s0, 0, none⟩ = some (.int .i64 x1) := by simp [World.cell?, hh4]
            have z1 : w4.cell? ⟨s0, 1, none⟩ = some (.int .i64 x2) := by simp [World.cell?, hh4]
            have hw4' := hw4.symm
            have hs0' := hs0.symm
            have HB4 : RowKit.Hid True := Lib.hid trivial
            subst hae
            clear hx hlm hh4 hV hw4 hb4 hsr hs0 hbw
            go_upto_region 26 with fail
            clear hw4' hs0' p1 p2
            by_cases c0 : 0 ≤ x1
            · have d0 : decide (0 ≤ x1) = true := by simpa using c0
              by_cases c1 : x1 < (N : Int)
              · have d1 : decide (x1 < (N : Int)) = true := by simpa using c1
                by_cases c2 : 0 ≤ x2
                · have d2 : decide (0 ≤ x2) = true := by simpa using c2
                  by_cases c3 : x2 < (N : Int)
                  · have d3 : decide (x2 < (N : Int)) = true := by simpa using c3
                    obtain ⟨u, rfl⟩ : ∃ u : Nat, x1 = (u : Int) := ⟨x1.toNat, by omega⟩
                    obtain ⟨v, rfl⟩ : ∃ v : Nat, x2 = (v : Int) := ⟨x2.toNat, by omega⟩
                    have huN : u < N := by omega
                    have hvN : v < N := by omega
                    have y1 := hV4.out.cell huN
                    have y2 := hV4.out.cell hvN
                    have hidx := Hord.out.idx (Gr.T_bd N l) Hol.out (Gr.T_iff.2 ⟨huN, hvN, Hlm.out⟩)
                    have hiu := Gr.idx_lt Hord.out Hol.out huN
                    have hiv := Gr.idx_lt Hord.out Hol.out hvN
                    obtain ⟨pu, hpu⟩ : ∃ p, p = o.idxOf u + 1 := ⟨_, rfl⟩
                    obtain ⟨pv, hpv⟩ : ∃ p, p = o.idxOf v + 1 := ⟨_, rfl⟩
                    rw [← hpu] at y1
                    rw [← hpv] at y2
                    have hlt : pu < pv := by omega
                    have d4 : decide (pv ≤ pu) = false := by simp; omega
                    have d5 : decide ((pv : Int) ≤ (pu : Int)) = false := by simp; omega
                    have e0 : decide ((0 : Int) ≤ (u : Int)) = true := by simp
                    clear hidx hiu hiv hpu hpv
                    go_quiet (fail)
                    have hVn := Lib.hid (hV4.out.keep (w' := w4.drewN nq) (by rw [drewN_heap]))
                    have hbn := Lib.hid (drewN_below hbw4 nq)
                    clear hV4
                    go_wp2_with fail
                    go_roundw
                    case rel => exact ⟨j + 1, by omega, by go_num, hVn, hbn.out⟩
                    case measure => simp [intOf]; omega
                  · have d3 : decide (x2 < (N : Int)) = false := by simpa using c3
                    go_quiet (fail)
                    have hVn := Lib.hid (hV4.out.keep (w' := w4.drewN nq) (by rw [drewN_heap]))
                    have hbn := Lib.hid (drewN_below hbw4 nq)
                    clear hV4
                    go_wp2_with fail
                    go_roundw
                    case rel => exact ⟨j + 1, by omega, by go_num, hVn, hbn.out⟩
                    case measure => simp [intOf]; omega
                · have d2 : decide (0 ≤ x2) = false := by simpa using c2
                  go_quiet (fail)
                  have hVn := Lib.hid (hV4.out.keep (w' := w4.drewN nq) (by rw [drewN_heap]))
                  have hbn := Lib.hid (drewN_below hbw4 nq)
                  clear hV4
                  go_wp2_with fail
                  go_roundw
                  case rel => exact ⟨j + 1, by omega, by go_num, hVn, hbn.out⟩
                  case measure => simp [intOf]; omega
              · have d1 : decide (x1 < (N : Int)) = false := by simpa using c1
                go_quiet (fail)
                have hVn := Lib.hid (hV4.out.keep (w' := w4.drewN nq) (by rw [drewN_heap]))
                have hbn := Lib.hid (drewN_below hbw4 nq)
                clear hV4
                go_wp2_with fail
                go_roundw
                case rel => exact ⟨j + 1, by omega, by go_num, hVn, hbn.out⟩
                case measure => simp [intOf]; omega
            · have d0 : decide (0 ≤ x1) = false := by simpa using c0
              go_quiet (fail)
              have hVn := Lib.hid (hV4.out.keep (w' := w4.drewN nq) (by rw [drewN_heap]))
              have hbn := Lib.hid (drewN_below hbw4 nq)
              clear hV4
              go_wp2_with fail
              go_roundw
              case rel => exact ⟨j + 1, by omega, by go_num, hVn, hbn.out⟩
              case measure => simp [intOf]; omega
          · have hji : ¬ ((j : Int) < (l.length : Int)) := by omega
            obtain ⟨wo, rfl⟩ : ∃ x : World, x = wr := ⟨_, rfl⟩
            clear hjl hj
            go_wp2_with fail
            go_loopw [121] (fun i w3 => ∃ q : Nat, q ≤ N ∧ i = .int .i64 q ∧ wo = w3) (fun i _ => N - (intOf i).toNat)
            case atStart => exact ⟨0, Nat.zero_le _, rfl, rfl⟩
            case round =>
              obtain ⟨q, hq, rfl, rfl⟩ := hrel
              by_cases hql : q < N
              · have hqi : (q : Int) < (N : Int) := by omega
                have hq0 : (0 : Int) ≤ (q : Int) := by omega
                have y1 := hV.out.cell hql
                obtain ⟨pv, hpv⟩ : ∃ p, p = o.idxOf q + 1 := ⟨_, rfl⟩
                have hp0 : 0 < pv := by omega
                rw [← hpv] at y1
                have d1 : ((pv : Int) == 0) = false := by simp; omega
                clear hpv
                go_wp2_with fail
                go_roundw
                case rel => exact ⟨q + 1, by omega, by go_num, trivial⟩
                case measure => simp [intOf]; omega
              · have hqi : ¬ ((q : Int) < (N : Int)) := by omega
                have hbf := Hb07.out.trans (hbw.mono (show W.heap.size ≤ E by rw [HE.out]; exact Hb07.out.size))
                have Hbf := Lib.hid hbf
                clear hbf
                go_wp2_with fail
                go_ret
                exact ⟨rfl, Hbf.out⟩
end Go.Proofs.Yticpbiccgnfecaa

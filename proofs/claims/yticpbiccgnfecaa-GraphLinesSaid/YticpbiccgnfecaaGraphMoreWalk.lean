
/-
  The walk of the law 'GraphMore'.
-/
import Derived.Test.YticpbiccgnfecaaGraX
namespace Go.Proofs.Yticpbiccgnfecaa
open Go.RowKit
set_option linter.unusedVariables false

theorem ti_pairs : ElemInfo Try.prog 22 27 EArc.sz 16 := ElemInfo.mk' (z := .agg #[.int .i64 0, .int .i64 0]) Try.underlying22 (by kernel_rfl) rfl (by decide)
namespace Gr
theorem Lk.mono {R S : Rel} (h : ∀ u v, R u v = true → S u v = true) : ∀ {l : List Nat} {g : Nat}, Lk R l g → Lk S l g
  | [], _, _ => trivial
  | u :: r, g, hk => ⟨h _ _ hk.1, Lk.mono h hk.2⟩
theorem Clo.monoR {R S : Rel} (h : ∀ u v, R u v = true → S u v = true) {c : List Nat} (hc : Clo R c) : Clo S c := ⟨hc.1, Lk.mono h hc.2⟩
theorem cyc_more {R S : Rel} (h : ∀ u v, R u v = true → S u v = true) {c d : List Nat} (hc : CycS R c) (hd : CycS S d) : c.length = 0 ∨ (0 < d.length ∧ d.length ≤ c.length) := by
  rcases hc with ⟨rfl, _⟩ | hc
  · exact .inl rfl
  · right
    have h1 := hc.clo.monoR h
    rcases hd with ⟨rfl, h2⟩ | hd
    · exact absurd h1 (h2 c)
    · exact ⟨hd.clo.pos, hd.min c h1⟩
theorem T_more (n : Nat) (l m : Arcs) (u v : Nat) (h : T n l u v = true) : T n (l ++ m) u v = true := by
  rw [T_iff] at h ⊢
  exact ⟨h.1, h.2.1, List.mem_append.2 (.inl h.2.2)⟩
theorem T_same {n : Nat} (hn : n ≤ 60) (l : Arcs) : T n (l ++ l ++ [(-1, 0), (0, 400), (1099511627776, 0)]) = T n l := by
  funext u v
  rw [Bool.eq_iff_iff, T_iff, T_iff]
  simp only [List.mem_append, List.mem_cons, Prod.mk.injEq, List.not_mem_nil, or_false]
  constructor
  · rintro ⟨h1, h2, (h | h) | ⟨h, h'⟩ | ⟨h, h'⟩ | ⟨h, h'⟩⟩
    · exact ⟨h1, h2, h⟩
    · exact ⟨h1, h2, h⟩
    · omega
    · omega
    · omega
  · rintro ⟨h1, h2, h⟩
    exact ⟨h1, h2, .inl (.inl h)⟩
end Gr

theorem arc_any {ok ok' : Nat → Prop} {w w' : World} {cs : List Value} {x : Int × Int} (h : EArc.rep ok w cs x) : EArc.rep ok' w' cs x := by
  obtain ⟨rfl, h2, h3⟩ := arc_rep h
  exact arc_mk h2 h3

set_option maxRecDepth 4096 in
set_option maxHeartbeats 3200000 in
theorem law_GraphMore (n : Int) (a1 : Option Addr) (c1 : Nat) (l : List (Int × Int)) (a2 : Option Addr) (c2 : Nat) (m : List (Int × Int)) (W : World) (hn : -9223372036854775808 ≤ n ∧ n ≤ 9223372036854775807) (hs1 : Sl EArc (fun _ => True) W a1 l) (hc1 : l.length ≤ c1) (hm1 : c1 ≤ maxLen) (hs2 : Sl EArc (fun _ => True) W a2 m) (hc2 : m.length ≤ c2) (hm2 : c2 ≤ maxLen) :
    Calls Try.prog 7 #[.int .i64 n, .slice a1 l.length c1, .slice a2 m.length c2] W fun e W' => e = .returned (.bool true) ∧ Below W.heap.size W W' := by
  obtain ⟨n0, n1⟩ := hn
  unfold maxLen at hm1 hm2
  have Hs1 := Lib.hid hs1
  have Hs2 := Lib.hid hs2
  clear hs1 hs2
  go_enter Try.func7, Try.ntmps7
  go_wp2_with fail
  refine (law07_found _ _ rfl).mono ?_
  rintro e w4 ⟨rfl, hb4⟩
  have Hb04 := Lib.hid hb4
  clear hb4
  by_cases k0 : 60 < n
  · go_wp2_with fail
    go_ret
    exact ⟨rfl, Hb04.out⟩
  by_cases k1 : (200 : Int) < (l.length : Int)
  · go_wp2_with fail
    go_ret
    exact ⟨rfl, Hb04.out⟩
  by_cases k2 : (200 : Int) < (m.length : Int)
  · go_wp2_with fail
    go_ret
    exact ⟨rfl, Hb04.out⟩
  obtain ⟨N, hN⟩ : ∃ N : Nat, N = (max n 0).toNat := ⟨_, rfl⟩
  have hN2 : min (max n 0) 400 = (N : Int) := by omega
  have hN3 : N ≤ 60 := by omega
  have HN2 := Lib.hid hN2
  have hll : l.length ≤ 200 := by omega
  have hml : m.length ≤ 200 := by omega
  clear hN hN2
  go_wp2_with fail
  refine (law07_arcs _ _ _ _ l _ rfl ⟨rfl, Hs1.out.below (by decide) Hb04.out⟩ (by omega)).mono ?_
  rintro e w5 ⟨v5, rfl, ho5, hb5⟩
  obtain ⟨a5, c5, rfl, hc5, hm5, hr5, _⟩ := ho5.shape l.length rfl
  have Hb05 := Lib.hid (Hb04.out.trans (hb5.mono Hb04.out.size))
  have Hr5 := Lib.hid hr5
  clear ho5 hb5 hr5
  go_wp2_with fail
  refine (graph_Cycle _ n N _ _ _ l _ rfl Hr5.out HN2.out (by omega)).mono ?_
  rintro e w6 ⟨v6, cy, rfl, hcy, ho6, hb6⟩
  have Hb06 := Lib.hid (Hb05.out.trans (hb6.mono Hb05.out.size))
  have Ho6 := Lib.hid ho6
  have Hcy := Lib.hid hcy
  have hlcy := cyc_len (Gr.T_bd N l) hcy
  have he := own_empty EArc 27 w6 (by decide)
  have hbe := alloc_below w6 (.cells #[] 27)
  have hsE : Sl EArc (fun q => some q ≠ (Value.slice (some ⟨w6.heap.size, 0, none⟩) 0 0).ownBlock) (w6.alloc (.cells #[] 27)) a1 l :=
    (Hs1.out.below (by decide) Hb06.out).mono (by decide) fun q _ hq => ⟨hbe.block q hq, by simp [Value.ownBlock]; omega⟩
  have He := Lib.hid he
  have Hbe := Lib.hid hbe
  have HsE := Lib.hid hsE
  clear hb6 ho6 hcy he hbe hsE
  go_upto_region 6 with fail
  go_wp2_with (refine wpList_app EArc rfl rfl (by rfl) (by rfl) ti_pairs He.out rfl HsE.out ?_ ?_ ?_ ?_)
  any_goals (first | omega | (simp [maxLen]; omega) | (simp; omega) | (simp; done))
  intro v7 w7 ho7 hg7 hv7 hb7
  have hb67 : Below w6.heap.size w6 w7 := Hbe.out.trans hb7
  have hs7 : Sl EArc (fun q => some q ≠ v7.ownBlock) w7 a2 m :=
    ((Hs2.out.below (by decide) Hb06.out).foreign (by decide) hb67 ho7 (Nat.le_refl _))
  have Ho7 := Lib.hid ho7
  have Hb67 := Lib.hid hb67
  have Hs7 := Lib.hid hs7
  have hz7 : w6.heap.size ≤ w7.heap.size := hb67.size
  clear ho7 hg7 hv7 hb7 hb67 hs7
  go_wp2_with (refine wpList_app EArc rfl rfl (by rfl) (by rfl) ti_pairs Ho7.out rfl Hs7.out ?_ ?_ ?_ ?_)
  any_goals (first | omega | (simp [maxLen]; omega) | (simp; omega) | (simp; done))
  intro v8 w8 ho8 hg8 hv8 hb8
  have hb68 : Below w6.heap.size w6 w8 := Hb67.out.trans hb8
  have ho8' : Own EArc 27 w6.heap.size w8 v8 (l ++ m) := by simpa using ho8
  obtain ⟨a8, c8, rfl, hc8, hm8, hr8, _⟩ := ho8'.shape (l.length + m.length) (by simp)
  have Ho68 := Lib.hid (Ho6.out.below hb68)
  have Hb08 := Lib.hid (Hb06.out.trans (hb68.mono Hb06.out.size))
  have Hr8 := Lib.hid hr8
  clear ho8 hg8 hv8 hb8 hb68 ho8' hr8 Ho7 Hs7 He HsE
  go_wp2_with fail
  refine (law07_arcs _ _ _ _ (l ++ m) _ rfl Hr8.out (by omega)).mono ?_
  rintro e w9 ⟨v9, rfl, ho9, hb9⟩
  obtain ⟨a9, c9, rfl, hc9, hm9, hr9, _⟩ := ho9.shape (l.length + m.length) (by simp)
  have Ho69 := Lib.hid (Ho68.out.below hb9)
  have Hb09 := Lib.hid (Hb08.out.trans (hb9.mono Hb08.out.size))
  have Hr9 := Lib.hid hr9
  clear ho9 hb9 hr9
  go_wp2_with fail
  refine (graph_Cycle _ n N _ _ _ (l ++ m) _ rfl Hr9.out HN2.out (by omega)).mono ?_
  rintro e w10 ⟨v10, cy2, rfl, hcy2, ho10, hb10⟩
  have Hb010 := Lib.hid (Hb09.out.trans (hb10.mono Hb09.out.size))
  have Ho610 := Lib.hid (Ho69.out.below hb10)
  have hmore := Gr.cyc_more (Gr.T_more N l m) Hcy.out hcy2
  obtain ⟨K1, hK1⟩ : ∃ K, K = cy.length := ⟨_, rfl⟩
  obtain ⟨K2, hK2⟩ : ∃ K, K = cy2.length := ⟨_, rfl⟩
  obtain ⟨a6, c6, rfl, hc6, hm6, hr6, _⟩ := Ho610.out.shape K1 (by rw [natI_len]; exact hK1)
  obtain ⟨a10, c10, rfl, hc10, hm10, hr10, _⟩ := ho10.shape K2 (by rw [natI_len]; exact hK2)
  rw [← hK1] at hlcy
  rw [← hK1, ← hK2] at hmore
  have Hr6 := Lib.hid hr6
  have HK1 := Lib.hid (show K1 = (natI cy).length by rw [natI_len]; exact hK1)
  have he := own_empty EArc 27 w10 (by decide)
  have hbe := alloc_below w10 (.cells #[] 27)
  have hsE : Sl EArc (fun q => some q ≠ (Value.slice (some ⟨w10.heap.size, 0, none⟩) 0 0).ownBlock) (w10.alloc (.cells #[] 27)) a1 l :=
    (Hs1.out.below (by decide) Hb010.out).mono (by decide) fun q _ hq => ⟨hbe.block q hq, by simp [Value.ownBlock]; omega⟩
  have He := Lib.hid he
  have Hbe10 := Lib.hid hbe
  have HsE := Lib.hid hsE
  have Hmore := Lib.hid hmore
  clear hb10 ho10 hcy2 hr10 hr6 hK1 hK2 Ho6 Ho68 Ho69 Ho610 he hbe hsE hmore Hb67 Hbe
  by_cases hz : K1 = 0
  · have hz2 : decide (0 < K1) = false := by simp; omega
    have Hz := Lib.hid hz
    clear hz
    go_upto_region 10 with fail
    go_wp2_with (refine wpList_app EArc rfl rfl (by rfl) (by rfl) ti_pairs He.out rfl HsE.out ?_ ?_ ?_ ?_)
    any_goals (first | omega | (simp [maxLen]; omega) | (simp; omega) | (simp; done))
    intro v7 w7 ho7 hg7 hv7 hb7
    have hb67 : Below w10.heap.size w10 w7 := Hbe10.out.trans hb7
    have hs7 : Sl EArc (fun q => some q ≠ v7.ownBlock) w7 a1 l :=
      ((Hs1.out.below (by decide) Hb010.out).foreign (by decide) hb67 ho7 (Nat.le_refl _))
    have Ho7 := Lib.hid ho7
    have Hb67 := Lib.hid hb67
    have Hs7 := Lib.hid hs7
    have hz7 : w10.heap.size ≤ w7.heap.size := hb67.size
    clear ho7 hg7 hv7 hb7 hb67 hs7
    go_wp2_with (refine wpList_app EArc rfl rfl (by rfl) (by rfl) ti_pairs Ho7.out rfl Hs7.out ?_ ?_ ?_ ?_)
    any_goals (first | omega | (simp [maxLen]; omega) | (simp; omega) | (simp; done))
    intro v8 w8 ho8 hg8 hv8 hb8
    have hb68 : Below w10.heap.size w10 w8 := Hb67.out.trans hb8
    have ho8' : Own EArc 27 w10.heap.size w8 v8 (l ++ l) := by simpa using ho8
    have hz8 : w10.heap.size ≤ w8.heap.size := hb68.size
    have hbl := alloc_below w8 (.cells #[.int .i64 (-1), .int .i64 0, .int .i64 0, .int .i64 400, .int .i64 1099511627776, .int .i64 0] 27)
    have Hol := Lib.hid (ho8'.below hbl)
    have hsl0 : Sl EArc (fun _ => True) (w8.alloc (.cells #[.int .i64 (-1), .int .i64 0, .int .i64 0, .int .i64 400, .int .i64 1099511627776, .int .i64 0] 27)) (some ⟨w8.heap.size, 0, none⟩) [(-1, 0), (0, 400), (1099511627776, 0)] :=
      sl_pairs [(-1, 0), (0, 400), (1099511627776, 0)] (heap_alloc_new w8 _) (by decide) (by
        intro k p hp
        have hk : k < 3 := by have := (List.getElem?_eq_some_iff.1 hp).1; simpa using this
        have e : k = 0 ∨ k = 1 ∨ k = 2 := by omega
        rcases e with rfl | rfl | rfl <;> (simp at hp; subst hp; exact ⟨rfl, rfl⟩))
    have hfr := ho8'.fresh
    have hsl : Sl EArc (fun q => some q ≠ v8.ownBlock) (w8.alloc (.cells #[.int .i64 (-1), .int .i64 0, .int .i64 0, .int .i64 400, .int .i64 1099511627776, .int .i64 0] 27)) (some ⟨w8.heap.size, 0, none⟩) [(-1, 0), (0, 400), (1099511627776, 0)] := fun k p hp => by
      obtain ⟨b, o, e, _, r⟩ := hsl0 k p hp
      injection e with e; injection e with e1 e2
      subst e1; subst e2
      obtain ⟨cs, hr, hc⟩ := r
      exact ⟨_, _, rfl, hfr, cs, EArc.mono (w' := w8.alloc (.cells #[.int .i64 (-1), .int .i64 0, .int .i64 0, .int .i64 400, .int .i64 1099511627776, .int .i64 0] 27)) (arc_any hr) fun _ h _ => ⟨rfl, h⟩, hc⟩
    have Hsl := Lib.hid hsl
    have Hbl := Lib.hid (hb68.trans (hbl.mono hz8))
    clear ho8 hg8 hv8 hb8 hb68 ho8' Ho7 Hs7 hbl hsl0 hsl hfr
    go_upto_region 11 with fail
    go_wp2_with (refine wpList_app EArc rfl rfl (by rfl) (by rfl) ti_pairs Hol.out rfl Hsl.out ?_ ?_ ?_ ?_)
    any_goals (first | omega | (simp [maxLen]; omega) | (simp; omega) | (simp; done))
    intro v11 w11 ho11 hg11 hv11 hb11
    have hb1011 : Below w10.heap.size w10 w11 := Hbl.out.trans hb11
    have ho11' : Own EArc 27 w10.heap.size w11 v11 (l ++ l ++ [(-1, 0), (0, 400), (1099511627776, 0)]) := by rw [List.append_assoc]; exact ho11
    obtain ⟨a11, c11, rfl, hc11, hm11, hr11, _⟩ := ho11'.shape (l.length + l.length + 3) (by simp only [List.length_append, List.length_cons, List.length_nil])
    have Hb011 := Lib.hid (Hb010.out.trans (hb1011.mono Hb010.out.size))
    have Hr11 := Lib.hid hr11
    have Hr611 := Lib.hid (show RS EInt w11 a6 K1 (natI cy) from Hr6.out.below (by decide) hb1011)
    clear ho11 ho11' hg11 hv11 hb11 hr11 hb1011 Hol Hsl
    go_wp2_with fail
    refine (law07_arcs _ _ _ _ (l ++ l ++ [(-1, 0), (0, 400), (1099511627776, 0)]) _ rfl Hr11.out (by omega)).mono ?_
    rintro e w12 ⟨v12, rfl, ho12, hb12⟩
    obtain ⟨a12, c12, rfl, hc12, hm12, hr12, _⟩ := ho12.shape (l.length + l.length + 3) (by simp only [List.length_append, List.length_cons, List.length_nil])
    have Hb012 := Lib.hid (Hb011.out.trans (hb12.mono Hb011.out.size))
    have Hr12 := Lib.hid hr12
    have Hr612 := Lib.hid (Hr611.out.below (by decide) hb12)
    clear ho12 hb12 hr12
    go_wp2_with fail
    refine (graph_Cycle _ n N _ _ _ (l ++ l ++ [(-1, 0), (0, 400), (1099511627776, 0)]) _ rfl Hr12.out HN2.out (by omega)).mono ?_
    rintro e w13 ⟨v13, cy3, rfl, hcy3, ho13, hb13⟩
    rw [Gr.T_same hN3] at hcy3
    obtain rfl := hcy3.uniq Hcy.out
    obtain ⟨a13, c13, rfl, hc13, hm13, hr13, _⟩ := ho13.shape K1 HK1.out
    have Hb013 := Lib.hid (Hb012.out.trans (hb13.mono Hb012.out.size))
    have Hr13 := Lib.hid hr13
    have Hr613 := Lib.hid (Hr612.out.below (by decide) hb13)
    clear ho13 hb13 hr13 hcy3
    go_wp2_with fail
    refine (ref07_Same _ K1 _ (natI cy3) _ K1 _ (natI cy3) _ Hr13.out Hr613.out (by omega) (by omega)).mono ?_
    rintro e w14 ⟨rfl, q, rfl⟩
    rw [show sameB (natI cy3) (natI cy3) = true by unfold sameB; simp]
    go_wp2_with fail
    go_ret
    exact ⟨rfl, drewN_below Hb013.out q⟩
  · have hz2 : decide (0 < K1) = true := by simp; omega
    have hz3 : 0 < K2 ∧ K2 ≤ K1 := by rcases Hmore.out with h | h; exact absurd h hz; exact h
    obtain ⟨hz4, hz5⟩ := hz3
    have hz6 : ((K2 : Int) == 0) = false := by simp; omega
    have hz7 : decide (K1 < K2) = false := by simp; omega
    clear hz
    go_upto_region 10 with fail
    go_wp2_with (refine wpList_app EArc rfl rfl (by rfl) (by rfl) ti_pairs He.out rfl HsE.out ?_ ?_ ?_ ?_)
    any_goals (first | omega | (simp [maxLen]; omega) | (simp; omega) | (simp; done))
    intro v7 w7 ho7 hg7 hv7 hb7
    have hb67 : Below w10.heap.size w10 w7 := Hbe10.out.trans hb7
    have hs7 : Sl EArc (fun q => some q ≠ v7.ownBlock) w7 a1 l :=
      ((Hs1.out.below (by decide) Hb010.out).foreign (by decide) hb67 ho7 (Nat.le_refl _))
    have Ho7 := Lib.hid ho7
    have Hb67 := Lib.hid hb67
    have Hs7 := Lib.hid hs7
    have hzx7 : w10.heap.size ≤ w7.heap.size := hb67.size
    clear ho7 hg7 hv7 hb7 hb67 hs7
    go_wp2_with (refine wpList_app EArc rfl rfl (by rfl) (by rfl) ti_pairs Ho7.out rfl Hs7.out ?_ ?_ ?_ ?_)
    any_goals (first | omega | (simp [maxLen]; omega) | (simp; omega) | (simp; done))
    intro v8 w8 ho8 hg8 hv8 hb8
    have hb68 : Below w10.heap.size w10 w8 := Hb67.out.trans hb8
    have ho8' : Own EArc 27 w10.heap.size w8 v8 (l ++ l) := by simpa using ho8
    have hzx8 : w10.heap.size ≤ w8.heap.size := hb68.size
    have hbl := alloc_below w8 (.cells #[.int .i64 (-1), .int .i64 0, .int .i64 0, .int .i64 400, .int .i64 1099511627776, .int .i64 0] 27)
    have Hol := Lib.hid (ho8'.below hbl)
    have hsl0 : Sl EArc (fun _ => True) (w8.alloc (.cells #[.int .i64 (-1), .int .i64 0, .int .i64 0, .int .i64 400, .int .i64 1099511627776, .int .i64 0] 27)) (some ⟨w8.heap.size, 0, none⟩) [(-1, 0), (0, 400), (1099511627776, 0)] :=
      sl_pairs [(-1, 0), (0, 400), (1099511627776, 0)] (heap_alloc_new w8 _) (by decide) (by
        intro k p hp
        have hk : k < 3 := by have := (List.getElem?_eq_some_iff.1 hp).1; simpa using this
        have e : k = 0 ∨ k = 1 ∨ k = 2 := by omega
        rcases e with rfl | rfl | rfl <;> (simp at hp; subst hp; exact ⟨rfl, rfl⟩))
    have hfr := ho8'.fresh
    have hsl : Sl EArc (fun q => some q ≠ v8.ownBlock) (w8.alloc (.cells #[.int .i64 (-1), .int .i64 0, .int .i64 0, .int .i64 400, .int .i64 1099511627776, .int .i64 0] 27)) (some ⟨w8.heap.size, 0, none⟩) [(-1, 0), (0, 400), (1099511627776, 0)] := fun k p hp => by
      obtain ⟨b, o, e, _, r⟩ := hsl0 k p hp
      injection e with e; injection e with e1 e2
      subst e1; subst e2
      obtain ⟨cs, hr, hc⟩ := r
      exact ⟨_, _, rfl, hfr, cs, EArc.mono (w' := w8.alloc (.cells #[.int .i64 (-1), .int .i64 0, .int .i64 0, .int .i64 400, .int .i64 1099511627776, .int .i64 0] 27)) (arc_any hr) fun _ h _ => ⟨rfl, h⟩, hc⟩
    have Hsl := Lib.hid hsl
    have Hbl := Lib.hid (hb68.trans (hbl.mono hzx8))
    clear ho8 hg8 hv8 hb8 hb68 ho8' Ho7 Hs7 hbl hsl0 hsl hfr
    go_upto_region 11 with fail
    go_wp2_with (refine wpList_app EArc rfl rfl (by rfl) (by rfl) ti_pairs Hol.out rfl Hsl.out ?_ ?_ ?_ ?_)
    any_goals (first | omega | (simp [maxLen]; omega) | (simp; omega) | (simp; done))
    intro v11 w11 ho11 hg11 hv11 hb11
    have hb1011 : Below w10.heap.size w10 w11 := Hbl.out.trans hb11
    have ho11' : Own EArc 27 w10.heap.size w11 v11 (l ++ l ++ [(-1, 0), (0, 400), (1099511627776, 0)]) := by rw [List.append_assoc]; exact ho11
    obtain ⟨a11, c11, rfl, hc11, hm11, hr11, _⟩ := ho11'.shape (l.length + l.length + 3) (by simp only [List.length_append, List.length_cons, List.length_nil])
    have Hb011 := Lib.hid (Hb010.out.trans (hb1011.mono Hb010.out.size))
    have Hr11 := Lib.hid hr11
    have Hr611 := Lib.hid (show RS EInt w11 a6 K1 (natI cy) from Hr6.out.below (by decide) hb1011)
    clear ho11 ho11' hg11 hv11 hb11 hr11 hb1011 Hol Hsl
    go_wp2_with fail
    refine (law07_arcs _ _ _ _ (l ++ l ++ [(-1, 0), (0, 400), (1099511627776, 0)]) _ rfl Hr11.out (by omega)).mono ?_
    rintro e w12 ⟨v12, rfl, ho12, hb12⟩
    obtain ⟨a12, c12, rfl, hc12, hm12, hr12, _⟩ := ho12.shape (l.length + l.length + 3) (by simp only [List.length_append, List.length_cons, List.length_nil])
    have Hb012 := Lib.hid (Hb011.out.trans (hb12.mono Hb011.out.size))
    have Hr12 := Lib.hid hr12
    have Hr612 := Lib.hid (Hr611.out.below (by decide) hb12)
    clear ho12 hb12 hr12
    go_wp2_with fail
    refine (graph_Cycle _ n N _ _ _ (l ++ l ++ [(-1, 0), (0, 400), (1099511627776, 0)]) _ rfl Hr12.out HN2.out (by omega)).mono ?_
    rintro e w13 ⟨v13, cy3, rfl, hcy3, ho13, hb13⟩
    rw [Gr.T_same hN3] at hcy3
    obtain rfl := hcy3.uniq Hcy.out
    obtain ⟨a13, c13, rfl, hc13, hm13, hr13, _⟩ := ho13.shape K1 HK1.out
    have Hb013 := Lib.hid (Hb012.out.trans (hb13.mono Hb012.out.size))
    have Hr13 := Lib.hid hr13
    have Hr613 := Lib.hid (Hr612.out.below (by decide) hb13)
    clear ho13 hb13 hr13 hcy3
    go_wp2_with fail
    refine (ref07_Same _ K1 _ (natI cy3) _ K1 _ (natI cy3) _ Hr13.out Hr613.out (by omega) (by omega)).mono ?_
    rintro e w14 ⟨rfl, q, rfl⟩
    rw [show sameB (natI cy3) (natI cy3) = true by unfold sameB; simp]
    go_wp2_with fail
    go_ret
    exact ⟨rfl, drewN_below Hb013.out q⟩
end Go.Proofs.Yticpbiccgnfecaa


/-
  The walk of the law 'GraphCycles'.
-/
import Derived.Test.YticpbiccgnfecaaGraX
namespace Go.Proofs.Yticpbiccgnfecaa
open Go.RowKit
set_option linter.unusedVariables false

set_option maxRecDepth 4096 in
set_option maxHeartbeats 1600000 in
theorem law_GraphCycles (n : Int) (a1 : Option Addr) (c1 : Nat) (l : List (Int × Int)) (W : World) (hn : -9223372036854775808 ≤ n ∧ n ≤ 9223372036854775807) (hs1 : Sl EArc (fun _ => True) W a1 l) (hc1 : l.length ≤ c1) (hm1 : c1 ≤ maxLen) :
    Calls Try.prog 6 #[.int .i64 n, .slice a1 l.length c1] W fun e W' => e = .returned (.bool true) ∧ Below W.heap.size W W' := by
  obtain ⟨n0, n1⟩ := hn
  unfold maxLen at hm1
  have Hs1 := Lib.hid hs1
  clear hs1
  go_enter Try.func6, Try.ntmps6
  go_wp2_with fail
  refine (law07_found _ _ rfl).mono ?_
  rintro e w4 ⟨rfl, hb4⟩
  have Hb04 := Lib.hid hb4
  clear hb4
  by_cases k0 : 7 < n
  · go_wp2_with fail
    go_ret
    exact ⟨rfl, Hb04.out⟩
  by_cases k1 : (100 : Int) < (l.length : Int)
  · go_wp2_with fail
    go_ret
    exact ⟨rfl, Hb04.out⟩
  obtain ⟨N, hN⟩ : ∃ N : Nat, N = (max n 0).toNat := ⟨_, rfl⟩
  have hN2 : min (max n 0) 400 = (N : Int) := by omega
  have hN3 : N ≤ 60 := by omega
  have hN4 : (N : Int) ≤ 60 := by omega
  have hN5 : 0 ≤ (N : Int) := by omega
  have HN := Lib.hid hN
  have HN2 := Lib.hid hN2
  clear hN hN2
  go_wp2_with fail
  refine (law07_arcs _ _ _ _ l _ rfl ⟨rfl, Hs1.out.below (by decide) Hb04.out⟩ (by omega)).mono ?_
  rintro e w5 ⟨v5, rfl, ho5, hb5⟩
  obtain ⟨a5, c5, rfl, hc5, hm5, hr5, _⟩ := ho5.shape l.length rfl
  have Hb05 := Lib.hid (Hb04.out.trans (hb5.mono Hb04.out.size))
  have Hr5 := Lib.hid hr5
  clear ho5 hb5 hr5
  go_wp2_with fail
  refine (graph_Cycle _ n N _ _ _ l _ rfl Hr5.out HN2.out (by omega)).mono ?_
  rintro e w6 ⟨v6, cy, rfl, hcy, ho6, hb6⟩
  have Hb06 := Lib.hid (Hb05.out.trans (hb6.mono Hb05.out.size))
  have Ho6 := Lib.hid ho6
  have Hcy := Lib.hid hcy
  clear hb6 ho6 hcy
  by_cases k3 : n < 0
  · obtain rfl : N = 0 := by have := HN.out; omega
    go_wp2_with fail
    refine (ref07_Table _ 0 _ _ _ l _ rfl ⟨rfl, Hs1.out.below (by decide) Hb06.out⟩ (by omega) (by omega)).mono ?_
    rintro e w7 ⟨rfl, ⟨rowsT, cpT, hMT⟩, hb7⟩
    have Ho67 := Lib.hid (Ho6.out.below hb7)
    have Hb07 := Lib.hid (Hb06.out.trans (hb7.mono Hb06.out.size))
    have HMT := Lib.hid hMT
    clear hMT hb7
    go_wp2_with fail
    refine (ref07_Cycle _ _ 0 rowsT cpT (Gr.T 0 l) _ rfl HMT.out (Gr.T_bd 0 l) (by omega)).mono ?_
    rintro e w8 ⟨a8, c8, d8, rfl, hcy8, hs8, hb8⟩
    have Ho68 := Lib.hid (Ho67.out.below hb8)
    have Hb08 := Lib.hid (Hb07.out.trans (hb8.mono Hb07.out.size))
    obtain rfl := hcy8.uniq Hcy.out
    have hlen := cyc_len (Gr.T_bd 0 l) hcy8
    have Hs8 := Lib.hid hs8
    obtain ⟨K, hK⟩ : ∃ K, K = d8.length := ⟨_, rfl⟩
    obtain ⟨a9, c9, rfl, _, _, hr9, _⟩ := Ho68.out.shape K (by rw [natI_len]; exact hK)
    rw [← hK] at hlen ⊢
    have Hr9 := Lib.hid hr9
    have HK := Lib.hid (show K = (natI d8).length by rw [natI_len]; exact hK)
    clear hr9 hcy8 hs8 hb8 hK Ho68
    go_wp2_with fail
    refine (ref07_Same _ K _ (natI d8) _ K _ (natI d8) _ Hr9.out ⟨HK.out, Hs8.out⟩ (by omega) (by omega)).mono ?_
    rintro e w9 ⟨rfl, q, rfl⟩
    rw [show sameB (natI d8) (natI d8) = true by unfold sameB; simp]
    go_wp2_with fail
    go_ret
    exact ⟨rfl, drewN_below Hb08.out q⟩
  · obtain rfl : n = (N : Int) := by have := HN.out; omega
    go_wp2_with fail
    refine (ref07_Table _ N _ _ _ l _ rfl ⟨rfl, Hs1.out.below (by decide) Hb06.out⟩ (by omega) (by omega)).mono ?_
    rintro e w7 ⟨rfl, ⟨rowsT, cpT, hMT⟩, hb7⟩
    have Ho67 := Lib.hid (Ho6.out.below hb7)
    have Hb07 := Lib.hid (Hb06.out.trans (hb7.mono Hb06.out.size))
    have HMT := Lib.hid hMT
    clear hMT hb7
    go_wp2_with fail
    refine (ref07_Cycle _ _ N rowsT cpT (Gr.T N l) _ rfl HMT.out (Gr.T_bd N l) (by omega)).mono ?_
    rintro e w8 ⟨a8, c8, d8, rfl, hcy8, hs8, hb8⟩
    have Ho68 := Lib.hid (Ho67.out.below hb8)
    have Hb08 := Lib.hid (Hb07.out.trans (hb8.mono Hb07.out.size))
    obtain rfl := hcy8.uniq Hcy.out
    have hlen := cyc_len (Gr.T_bd N l) hcy8
    have Hs8 := Lib.hid hs8
    obtain ⟨K, hK⟩ : ∃ K, K = d8.length := ⟨_, rfl⟩
    obtain ⟨a9, c9, rfl, _, _, hr9, _⟩ := Ho68.out.shape K (by rw [natI_len]; exact hK)
    rw [← hK] at hlen ⊢
    have Hr9 := Lib.hid hr9
    have HK := Lib.hid (show K = (natI d8).length by rw [natI_len]; exact hK)
    clear hr9 hcy8 hs8 hb8 hK Ho68
    go_wp2_with fail
    refine (ref07_Same _ K _ (natI d8) _ K _ (natI d8) _ Hr9.out ⟨HK.out, Hs8.out⟩ (by omega) (by omega)).mono ?_
    rintro e w9 ⟨rfl, q, rfl⟩
    rw [show sameB (natI d8) (natI d8) = true by unfold sameB; simp]
    go_wp2_with fail
    go_ret
    exact ⟨rfl, drewN_below Hb08.out q⟩
end Go.Proofs.Yticpbiccgnfecaa

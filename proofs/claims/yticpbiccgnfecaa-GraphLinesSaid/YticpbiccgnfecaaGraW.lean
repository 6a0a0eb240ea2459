
/-
  The shortest cycle: the reference's search.
-/
import Derived.Test.YticpbiccgnfecaaGraY
namespace Go.Proofs.Yticpbiccgnfecaa
open Go.RowKit
set_option linter.unusedVariables false

/-- a list that is found comes back, or none -/
def WalkPost (B : Nat) (R : Gr.Rel) (L : Nat) (way : List Nat) (w : World) (e : Ending) (w' : World) : Prop :=
  ∃ (a : Option Addr) (cp : Nat) (c : List Nat), e = .returned (.slice a c.length cp) ∧ Gr.FoundS R L way c ∧ c.length ≤ cp ∧ cp ≤ maxLen ∧ Sl EInt (fun _ => True) w' a (natI c) ∧ Below B w w'
namespace Gr
/-- may v come next, as far as the first j of the way tell? -/
def okB (R : Rel) (way : List Nat) (v j : Nat) : Bool := (way.isEmpty || R (way.getLastD 0) v) && !(way.take j).contains v
theorem okB_zero (R : Rel) (way : List Nat) (v : Nat) : okB R way v 0 = (way.isEmpty || R (way.getLastD 0) v) := by simp [okB]
theorem okB_succ (R : Rel) (way : List Nat) (v j : Nat) (hj : j < way.length) : okB R way v (j + 1) = (okB R way v j && !(way[j] == v)) := by
  unfold okB
  rw [(List.take_append_getElem hj).symm]
  have e : (way.take j ++ [way[j]]).contains v = ((way.take j).contains v || way[j] == v) := by
    rw [Bool.eq_iff_iff]
    simp only [List.contains_eq_mem, decide_eq_true_eq, List.mem_append, List.mem_cons, List.not_mem_nil, or_false, Bool.or_eq_true, beq_iff_eq]
    exact ⟨fun h => h.imp id Eq.symm, fun h => h.imp id Eq.symm⟩
  rw [e, Bool.not_or, Bool.and_assoc]
theorem okB_pre {n : Nat} {R : Rel} {way : List Nat} {v : Nat} (h : Pre n R way) (hv : v < n) (hok : okB R way v way.length = true) : Pre n R (way ++ [v]) := by
  unfold okB at hok
  simp only [List.take_length, Bool.and_eq_true, Bool.or_eq_true, List.isEmpty_iff, Bool.not_eq_true', List.contains_eq_mem, decide_eq_false_iff_not] at hok
  refine h.snoc hv (fun w a e => ?_) hok.2
  rcases hok.1 with h1 | h1
  · rw [h1] at e; simp at e
  · rw [e] at h1; simpa using h1
theorem okB_bad {R : Rel} {L : Nat} {way : List Nat} {v : Nat} (hok : okB R way v way.length = false) : ¬ SExt R L (way ++ [v]) := by
  unfold okB at hok
  simp only [List.take_length, Bool.and_eq_false_iff, Bool.or_eq_false_iff, Bool.not_eq_false', List.contains_eq_mem, decide_eq_true_eq] at hok
  rcases hok with ⟨h1, h2⟩ | h
  · rcases List.eq_nil_or_concat way with rfl | ⟨w, a, rfl⟩
    · simp at h1
    · rw [List.concat_eq_append] at h2 ⊢
      exact bad_arc (by simpa using h2)
  · exact bad_twice h
end Gr

theorem natI_at {ok : Nat → Prop} {w : World} {a : Option Addr} {l : List Nat} (h : Sl EInt ok w a (natI l)) (h0 : 0 < l.length) : ∃ b o, a = some ⟨b, o, none⟩ ∧ ∀ k (hk : k < l.length), w.cell? ⟨b, o + k, none⟩ = some (.int .i64 (l[k] : Nat)) := by
  obtain ⟨b, o, rfl, hc⟩ := SlI.all h (by rw [natI_len]; exact h0)
  refine ⟨b, o, rfl, fun k hk => ?_⟩
  rw [hc k (by rw [natI_len]; exact hk), natI_get]

set_option maxRecDepth 4096 in
set_option maxHeartbeats 3200000 in
theorem ref07_walk (g N : Nat) (rows cp : Nat → Nat) (R : Gr.Rel) (hbd : Gr.Bd N R) (hNl : N ≤ 1000) (L : Nat) (hL1 : 1 ≤ L) (hLN : L ≤ N) : ∀ (d B : Nat) (way : List Nat) (a : Option Addr) (n c : Nat) (w : World), w.heap.size = B → Mtx 33 4 w g N N N rows cp R → RS EInt w a n (natI way) → n ≤ c → c ≤ maxLen → Gr.Pre N R way → way.length + d = L →
    Calls Try.prog 31 #[.slice (some ⟨g, 0, none⟩) N N, .slice a n c, .int .i64 L] w (WalkPost B R L way w) := by
  intro d
  induction d with
  | zero =>
    intro B way a n c w hB hM hr hnc hcm hP hd
    obtain ⟨hn, hs⟩ := hr
    rw [natI_len] at hn
    have hLl : n = L := by omega
    subst hLl
    rcases List.eq_nil_or_concat way with rfl | ⟨w0, x, rfl⟩
    · simp at hd; omega
    · rw [List.concat_eq_append] at hn hs hP ⊢
      have hlen : (w0 ++ [x]).length = n := hn.symm
      obtain ⟨b, o, rfl, hc⟩ := natI_at hs (by omega)
      have p1 := hc (n - 1) (by omega)
      have p0 := hc 0 (by omega)
      have hx : (w0 ++ [x])[n - 1]'(by omega) = x := by
        have : n - 1 = w0.length := by simp at hlen; omega
        simp [this]
      have hh : (w0 ++ [x])[0]'(by omega) = (w0 ++ [x]).headD 0 := by cases w0 <;> simp
      rw [hx] at p1
      rw [hh, Nat.add_zero] at p0
      obtain ⟨h0, hh0⟩ : ∃ y, y = (w0 ++ [x]).headD 0 := ⟨_, rfl⟩
      rw [← hh0] at p0
      have hxN : x < N := hP.lt x (by simp)
      have h0N : h0 < N := by rw [hh0, ← hh]; exact hP.lt _ (List.getElem_mem _)
      have y1 := hM.cell hxN
      have y2 := hM.at hxN h0N
      obtain ⟨rx, hrx⟩ : ∃ y, y = rows x := ⟨_, rfl⟩
      obtain ⟨cx, hcx⟩ : ∃ y, y = cp x := ⟨_, rfl⟩
      obtain ⟨bb, hbb⟩ : ∃ y, y = R x h0 := ⟨_, rfl⟩
      rw [← hrx, ← hcx] at y1
      rw [← hrx, ← hbb] at y2
      obtain ⟨m, hm⟩ : ∃ m, m = n - 1 := ⟨_, rfl⟩
      rw [← hm] at p1
      have hmi : (n : Int) - 1 = (m : Int) := by omega
      have hmw : IntKind.i64.wrap ((n : Int) - 1) = (m : Int) := by rw [IntWalk.i64_in _ (by omega)]; exact hmi
      have hm0 : (0 : Int) ≤ (m : Int) := by omega
      have hm1 : (m : Int) < (n : Int) := by omega
      have hn0 : (0 : Int) < (n : Int) := by omega
      have hx0 : (0 : Int) ≤ (x : Int) := by omega
      have hx1 : (x : Int) < (N : Int) := by omega
      have hz0 : (0 : Int) ≤ (h0 : Int) := by omega
      have hz1 : (h0 : Int) < (N : Int) := by omega
      have hbf : Below B w w := Below.refl _ _
      have hy : bb = true → WalkPost B R n (w0 ++ [x]) w (.returned (.slice (some ⟨b, o, none⟩) n c)) w := fun e =>
        ⟨some ⟨b, o, none⟩, c, w0 ++ [x], by rw [hlen], Gr.full_yes hP hlen (by rw [← hh0, ← hbb, e]), by omega, hcm, hs, hbf⟩
      have hno : bb = false → WalkPost B R n (w0 ++ [x]) w (.returned (.slice none 0 0)) w := fun e =>
        ⟨none, 0, [], rfl, Gr.full_no hlen (by rw [← hh0, ← hbb, e]), by simp, by unfold maxLen; omega, Sl.nil _ _ _ _, hbf⟩
      have hw2 : ∀ (q : Nat) (e : Ending) (W : World), WalkPost B R n (w0 ++ [x]) w e w → W = w.drewN q → WalkPost B R n (w0 ++ [x]) w e W := fun q e W h hW => by
        obtain ⟨a', c', l', h1, h2, h3, h4, h5, h6⟩ := h
        subst hW
        exact ⟨a', c', l', h1, h2, h3, h4, h5.heap (by decide) (drewN_heap w q), h6.trans ⟨rfl, rfl, rfl, by rw [drewN_heap]; exact Nat.le_refl _, fun k _ => by rw [drewN_heap]⟩⟩
      have Hy := Lib.hid hy
      have Hno := Lib.hid hno
      have Hw2 := Lib.hid hw2
      clear hy hno hw2 hm hx hh hh0 hlen hc hrx hcx hbb hB hs hn hP hbf hM hcm hd
      go_enter Try.func31, Try.ntmps31
      go_upto_region 2 with fail
      go_quiet (fail)
      cases bb
      · go_wp2_with fail
        go_ret
        exact Hw2.out _ _ _ (Hno.out (by trivial)) rfl
      · go_wp2_with fail
        go_ret
        exact Hw2.out _ _ _ (Hy.out (by trivial)) rfl
  | succ d ih =>
    intro B way a n c w hB hM hr hnc hcm hP hd
    obtain ⟨hn, hs⟩ := hr
    rw [natI_len] at hn
    have hnL : n < L := by omega
    have hne : ((n : Int) == (L : Int)) = false := by simp; omega
    have hL0 : (L : Int) ≤ 1000 := by omega
    have hN0 : (0 : Int) ≤ (N : Int) := by omega
    have hN1 : (N : Int) ≤ 1000 := by omega
    have Hn := Lib.hid hn
    have Hs := Lib.hid hs
    have HM := Lib.hid hM
    have HB := Lib.hid hB
    have HP := Lib.hid hP
    have Ih := Lib.hid ih
    have Hd := Lib.hid hd
    have hb0 : Below B w w := Below.refl _ _
    clear hn hs hM hB hP ih hd
    go_enter Try.func31, Try.ntmps31
    go_wp2_with fail
    go_loopg [32] N (fun gn i wr => ∃ k : Nat, RowKit.Hid (gn = N - k) ∧ k ≤ N ∧ i = .int .i64 k ∧ RowKit.Hid (∀ v, v < k → ¬ Gr.SExt R L (way ++ [v])) ∧ Below B w wr)
    case atStart => exact ⟨0, Lib.hid rfl, Nat.zero_le _, rfl, Lib.hid (fun v hv => by omega), hb0⟩
    case round =>
      clear hb0
      obtain ⟨k, hgn, hk, rfl, hno, hb⟩ := hrel
      obtain ⟨wo, rfl⟩ : ∃ x : World, x = wr := ⟨_, rfl⟩
      by_cases hlt : k < N
      · have hki : (k : Int) < (N : Int) := by omega
        have hk0 : (0 : Int) ≤ (k : Int) := by omega
        have hMo : Mtx 33 4 wo g N N N rows cp R := HM.out.below (by rw [HB.out]; exact hb)
        have hso : Sl EInt (fun _ => True) wo a (natI way) := Hs.out.below (by decide) (by rw [HB.out]; exact hb)
        have HMo := Lib.hid hMo
        have Hso := Lib.hid hso
        clear hMo hso
        by_cases hw0 : n = 0
        · subst hw0
          have hok0 : RowKit.Hid (true = Gr.okB R way k 0) := Lib.hid (by rw [Gr.okB_zero]; have := Hn.out; rw [List.length_eq_zero_iff.1 this.symm]; rfl)
          go_upto_region 9 with fail
          go_wp2_with fail
          go_loopg [8, 54] 0 (fun gj ok i w' => ∃ (j : Nat) (bo : Bool), RowKit.Hid (gj = 0 - j) ∧ j ≤ 0 ∧ i = .int .i64 j ∧ ok = .bool bo ∧ RowKit.Hid (bo = Gr.okB R way k j) ∧ wo = w')
          case atStart => exact ⟨0, true, Lib.hid rfl, Nat.zero_le _, rfl, rfl, hok0, rfl⟩
          case round =>
            clear hok0
            obtain ⟨j, bo, hgj, hj, rfl, rfl, hbo, rfl⟩ := hrel
            by_cases hjl : j < 0
            · exact absurd hjl (Nat.not_lt_zero _)
            · have hji : ¬ ((j : Int) < ((0 : Nat) : Int)) := by omega
              have hbo2 : bo = Gr.okB R way k way.length := by rw [hbo.out]; congr 1; have := Hn.out; omega
              have Hbo := Lib.hid hbo2
              clear hbo hbo2 hgj hj
              cases bo
              · have hno2 : RowKit.Hid (∀ v, v < k + 1 → ¬ Gr.SExt R L (way ++ [v])) := Lib.hid fun v hv => by
                  by_cases e : v = k
                  · rw [e]; exact Gr.okB_bad Hbo.out.symm
                  · exact hno.out v (by omega)
                clear hno
                go_wp2_with fail
                go_roundg (N - (k + 1))
                case measure => rw [hgn.out]; omega
                case rel => exact ⟨k + 1, Lib.hid rfl, by omega, by go_num, hno2, hb⟩
              · have hP2 := Gr.okB_pre HP.out hlt Hbo.out.symm
                have HP2 := Lib.hid hP2
                have ho5 := own_empty EInt 3 wo (by decide)
                have hb5 := alloc_below wo (.cells #[] 3)
                have hs5 : Sl EInt (fun q => some q ≠ (Value.slice (some ⟨wo.heap.size, 0, none⟩) 0 0).ownBlock) (wo.alloc (.cells #[] 3)) a (natI way) :=
                  Hso.out.mono (by decide) fun q _ hq => ⟨hb5.block q hq, by simp [Value.ownBlock]; omega⟩
                have Ho5 := Lib.hid ho5
                have Hs5 := Lib.hid hs5
                have Hb5 := Lib.hid hb5
                have hkr : -9223372036854775808 ≤ (k : Int) ∧ (k : Int) ≤ 9223372036854775807 := by omega
                have Hkr := Lib.hid hkr
                have hwl : (natI way).length ≤ 1000 := by rw [natI_len]; have := Hn.out; omega
                have Hwl := Lib.hid hwl
                clear hP2 ho5 hs5 hb5 hkr hwl
                go_upto_region 15 with fail
                go_wp2_with (refine wpList_app EInt rfl rfl (by rfl) (by rfl) ti_ints Ho5.out (by rw [natI_len]; exact Hn.out) Hs5.out ?_ ?_ ?_ ?_)
                any_goals (have h9 := Hwl.out; first | (unfold maxLen; omega) | omega | (simp only [List.length_nil, Nat.zero_add, maxLen]; omega) | (simp; done))
                · intro v6 w6 ho6 hg6 hv6 hb6
                  have hb06 : Below wo.heap.size wo w6 := Hb5.out.trans hb6
                  have Hb67 := Lib.hid (alloc_below w6 (.cells #[.int .i64 k] 3))
                  have HO7 := Lib.hid (ho6.below Hb67.out)
                  have HS7 : RowKit.Hid (Sl EInt (fun q => some q ≠ v6.ownBlock) (w6.alloc (.cells #[.int .i64 k] 3)) (some ⟨w6.heap.size, 0, none⟩) [(k : Int)]) := Lib.hid (sl_one (heap_alloc_new w6 _) ⟨rfl, Hkr.out⟩ ho6.fresh)
                  have Hb06 := Lib.hid hb06
                  have hw6s : wo.heap.size ≤ w6.heap.size := hb06.size
                  clear ho6 hg6 hv6 hb6 hb06
                  go_wp2_with (refine wpList_app EInt rfl rfl (by rfl) (by rfl) ti_ints HO7.out rfl HS7.out ?_ ?_ ?_ ?_)
                  any_goals (have h9 := Hwl.out; first | omega | (simp [maxLen]; omega) | (simp; omega) | (simp; done))
                  · intro v8 w8 ho8 hg8 hv8 hb8
                    have hb08 : Below wo.heap.size wo w8 := (Hb06.out.trans (Hb67.out.mono hw6s)).trans hb8
                    have hlist : natI way ++ [(k : Int)] = natI (way ++ [k]) := by unfold natI; simp
                    have ho8' : Own EInt 3 wo.heap.size w8 v8 (natI (way ++ [k])) := by rw [← hlist]; simpa using ho8
                    obtain ⟨a9, c9, rfl, hc9, hm9, hr9, _⟩ := ho8'.shape (0 + 1) (by rw [natI_len, List.length_append, List.length_singleton, ← Hn.out])
                    have hM8 := HMo.out.below hb08
                    have hcall := Ih.out _ (way ++ [k]) a9 (0 + 1) c9 w8 rfl hM8 hr9 hc9 hm9 HP2.out (by rw [List.length_append, List.length_singleton]; have := Hd.out; omega)
                    have Hcall := Lib.hid hcall
                    have hbw8 : Below B w w8 := hb.trans (hb08.mono (by have h1 := hb.size; rw [HB.out] at h1; exact h1))
                    have Hbw8 := Lib.hid hbw8
                    clear ho8 hg8 hv8 hb8 ho8' hlist hM8 hcall hr9 hbw8 hb08 HO7 HS7
                    go_wp2_with fail
                    refine (Hcall.out).mono ?_
                    rintro e w10 ⟨a10, c10, cf, rfl, hF, hc10, hm10, hs10, hb10⟩
                    have hbw10 : Below B w w10 := Hbw8.out.trans (hb10.mono (by have h1 := Hbw8.out.size; rw [HB.out] at h1; exact h1))
                    by_cases hcf : cf = []
                    · subst hcf
                      have hno2 : RowKit.Hid (∀ v, v < k + 1 → ¬ Gr.SExt R L (way ++ [v])) := Lib.hid fun v hv => by
                        by_cases e : v = k
                        · rw [e]
                          rcases hF with ⟨_, h⟩ | ⟨h, _⟩
                          · exact h
                          · exact absurd rfl h.1
                        · exact hno.out v (by omega)
                      clear hno hF hs10
                      go_wp2_with fail
                      go_roundg (N - (k + 1))
                      case measure => rw [hgn.out]; omega
                      case rel => exact ⟨k + 1, Lib.hid rfl, by omega, by go_num, hno2, hbw10⟩
                    · have hpost : WalkPost B R L way w (.returned (.slice a10 cf.length c10)) w10 := ⟨a10, c10, cf, rfl, Gr.found_step hF hcf hno.out, hc10, hm10, hs10, hbw10⟩
                      have Hpost := Lib.hid hpost
                      have hcf0 : (0 : Int) < (cf.length : Int) := by have := List.length_pos_iff.2 hcf; omega
                      have hcf1 : decide (0 < cf.length) = true := by simp; omega
                      clear hpost hF hno hs10
                      go_wp2_with fail
                      go_ret
                      exact Hpost.out
        · have hn0 : 0 < n := by omega
          obtain ⟨b, o, hae, hcs⟩ := natI_at Hso.out (by rw [← Hn.out]; exact hn0)
          subst hae
          obtain ⟨q, hq⟩ : ∃ q, q = n - 1 := ⟨_, rfl⟩
          have hqw : q < way.length := by rw [← Hn.out]; omega
          have p1 := hcs q hqw
          have hxl : way[q] = way.getLastD 0 := by
            rcases List.eq_nil_or_concat way with h | ⟨w0, x, h⟩
            · rw [h] at hqw; simp at hqw
            · have hl := Hn.out
              obtain rfl : way = w0 ++ [x] := by rw [h, List.concat_eq_append]
              have : q = w0.length := by simp at hl; omega
              simp [this]
          have hxN : way[q] < N := HP.out.lt _ (List.getElem_mem _)
          rw [hxl] at p1 hxN
          obtain ⟨x, hx⟩ : ∃ x, x = way.getLastD 0 := ⟨_, rfl⟩
          rw [← hx] at p1 hxN
          have y1 := HMo.out.cell hxN
          have y2 := HMo.out.at hxN hlt
          obtain ⟨rx, hrx⟩ : ∃ y, y = rows x := ⟨_, rfl⟩
          obtain ⟨cx, hcx⟩ : ∃ y, y = cp x := ⟨_, rfl⟩
          obtain ⟨b0, hb0⟩ : ∃ y, y = R x k := ⟨_, rfl⟩
          rw [← hrx, ← hcx] at y1
          rw [← hrx, ← hb0] at y2
          have hb0e : b0 = Gr.okB R way k 0 := by
            rw [Gr.okB_zero, ← hx, ← hb0]
            have : way.isEmpty = false := by
              cases hwy : way with
              | nil => rw [hwy] at hqw; simp at hqw
              | cons _ _ => rfl
            rw [this]; rfl
          have hok0 : RowKit.Hid (b0 = Gr.okB R way k 0) := Lib.hid hb0e
          clear hb0e
          have hnI : ((n : Int) == 0) = false := by simp; omega
          have hqi : (n : Int) - 1 = (q : Int) := by omega
          have hqv : IntKind.i64.wrap ((n : Int) - 1) = (q : Int) := by rw [IntWalk.i64_in _ (by omega)]; exact hqi
          have hq0 : (0 : Int) ≤ (q : Int) := by omega
          have hq1 : (q : Int) < (n : Int) := by omega
          have hx0 : (0 : Int) ≤ (x : Int) := by omega
          have hx1 : (x : Int) < (N : Int) := by omega
          have Hhq := Lib.hid hq
          clear hcs hxl hx hrx hcx hb0 hq
          go_upto_region 9 with fail
          clear p1 y1 y2
          go_wp2_with fail
          go_loopg [8, 54] n (fun gj ok i w' => ∃ (j : Nat) (bo : Bool), RowKit.Hid (gj = n - j) ∧ j ≤ n ∧ i = .int .i64 j ∧ ok = .bool bo ∧ RowKit.Hid (bo = Gr.okB R way k j) ∧ wo = w')
          case atStart => exact ⟨0, b0, Lib.hid rfl, Nat.zero_le _, rfl, rfl, hok0, rfl⟩
          case round =>
            clear hok0
            obtain ⟨j, bo, hgj, hj, rfl, rfl, hbo, rfl⟩ := hrel
            by_cases hjl : j < n
            · have hji : (j : Int) < (n : Int) := by omega
              have hj0 : (0 : Int) ≤ (j : Int) := by omega
              have hjw : j < way.length := by rw [← Hn.out]; exact hjl
              obtain ⟨b4, o4, hae, hc4⟩ := natI_at Hso.out (by omega)
              have p4 := hc4 j hjw
              have hsn := Gr.okB_succ R way k j hjw
              rw [← hbo.out] at hsn
              obtain ⟨u, hu⟩ : ∃ u, u = way[j] := ⟨_, rfl⟩
              rw [← hu] at p4 hsn
              have Hsn := Lib.hid hsn
              injection hae with hae; injection hae with hae1 hae2; subst hae1; subst hae2
              clear hc4 hsn hu hbo
              cases bo
              · go_wp2_with fail
                go_roundg (n - (j + 1))
                case measure => rw [hgj.out]; omega
                case rel => exact ⟨j + 1, false, Lib.hid rfl, by omega, by go_num, rfl, Lib.hid (by rw [Hsn.out]; rfl), rfl⟩
              · by_cases huk : u = k
                · subst huk
                  go_wp2_with fail
                  go_roundg (n - (j + 1))
                  case measure => rw [hgj.out]; omega
                  case rel => exact ⟨j + 1, false, Lib.hid rfl, by omega, by go_num, rfl, Lib.hid (by rw [Hsn.out]; simp), rfl⟩
                · have hne2 : ((u : Int) != (k : Int)) = true := by simp; omega
                  have hne3 : ((u : Int) == (k : Int)) = false := by simp; omega
                  go_wp2_with fail
                  go_roundg (n - (j + 1))
                  case measure => rw [hgj.out]; omega
                  case rel => exact ⟨j + 1, true, Lib.hid rfl, by omega, by go_num, rfl, Lib.hid (by rw [Hsn.out]; simp [huk]), rfl⟩
            · have hji : ¬ ((j : Int) < (n : Int)) := by omega
              have hbo2 : bo = Gr.okB R way k way.length := by rw [hbo.out]; congr 1; have := Hn.out; omega
              have Hbo := Lib.hid hbo2
              clear hbo hbo2 hgj hj
              cases bo
              · have hno2 : RowKit.Hid (∀ v, v < k + 1 → ¬ Gr.SExt R L (way ++ [v])) := Lib.hid fun v hv => by
                  by_cases e : v = k
                  · rw [e]; exact Gr.okB_bad Hbo.out.symm
                  · exact hno.out v (by omega)
                clear hno
                go_wp2_with fail
                go_roundg (N - (k + 1))
                case measure => rw [hgn.out]; omega
                case rel => exact ⟨k + 1, Lib.hid rfl, by omega, by go_num, hno2, hb⟩
              · have hP2 := Gr.okB_pre HP.out hlt Hbo.out.symm
                have HP2 := Lib.hid hP2
                have ho5 := own_empty EInt 3 wo (by decide)
                have hb5 := alloc_below wo (.cells #[] 3)
                have hs5 : Sl EInt (fun q => some q ≠ (Value.slice (some ⟨wo.heap.size, 0, none⟩) 0 0).ownBlock) (wo.alloc (.cells #[] 3)) (some ⟨b, o, none⟩) (natI way) :=
                  Hso.out.mono (by decide) fun q _ hq => ⟨hb5.block q hq, by simp [Value.ownBlock]; omega⟩
                have Ho5 := Lib.hid ho5
                have Hs5 := Lib.hid hs5
                have Hb5 := Lib.hid hb5
                have hkr : -9223372036854775808 ≤ (k : Int) ∧ (k : Int) ≤ 9223372036854775807 := by omega
                have Hkr := Lib.hid hkr
                have hwl : (natI way).length ≤ 1000 := by rw [natI_len]; have := Hn.out; omega
                have Hwl := Lib.hid hwl
                clear hP2 ho5 hs5 hb5 hkr hwl
                go_upto_region 15 with fail
                go_wp2_with (refine wpList_app EInt rfl rfl (by rfl) (by rfl) ti_ints Ho5.out (by rw [natI_len]; exact Hn.out) Hs5.out ?_ ?_ ?_ ?_)
                any_goals (have h9 := Hwl.out; first | (unfold maxLen; omega) | omega | (simp only [List.length_nil, Nat.zero_add, maxLen]; omega) | (simp; done))
                · intro v6 w6 ho6 hg6 hv6 hb6
                  have hb06 : Below wo.heap.size wo w6 := Hb5.out.trans hb6
                  have Hb67 := Lib.hid (alloc_below w6 (.cells #[.int .i64 k] 3))
                  have HO7 := Lib.hid (ho6.below Hb67.out)
                  have HS7 : RowKit.Hid (Sl EInt (fun q => some q ≠ v6.ownBlock) (w6.alloc (.cells #[.int .i64 k] 3)) (some ⟨w6.heap.size, 0, none⟩) [(k : Int)]) := Lib.hid (sl_one (heap_alloc_new w6 _) ⟨rfl, Hkr.out⟩ ho6.fresh)
                  have Hb06 := Lib.hid hb06
                  have hw6s : wo.heap.size ≤ w6.heap.size := hb06.size
                  clear ho6 hg6 hv6 hb6 hb06
                  go_wp2_with (refine wpList_app EInt rfl rfl (by rfl) (by rfl) ti_ints HO7.out rfl HS7.out ?_ ?_ ?_ ?_)
                  any_goals (have h9 := Hwl.out; first | omega | (simp [maxLen]; omega) | (simp; omega) | (simp; done))
                  · intro v8 w8 ho8 hg8 hv8 hb8
                    have hb08 : Below wo.heap.size wo w8 := (Hb06.out.trans (Hb67.out.mono hw6s)).trans hb8
                    have hlist : natI way ++ [(k : Int)] = natI (way ++ [k]) := by unfold natI; simp
                    have ho8' : Own EInt 3 wo.heap.size w8 v8 (natI (way ++ [k])) := by rw [← hlist]; simpa using ho8
                    obtain ⟨a9, c9, rfl, hc9, hm9, hr9, _⟩ := ho8'.shape (n + 1) (by rw [natI_len, List.length_append, List.length_singleton, ← Hn.out])
                    have hM8 := HMo.out.below hb08
                    have hcall := Ih.out _ (way ++ [k]) a9 (n + 1) c9 w8 rfl hM8 hr9 hc9 hm9 HP2.out (by rw [List.length_append, List.length_singleton]; have := Hd.out; omega)
                    have Hcall := Lib.hid hcall
                    have hbw8 : Below B w w8 := hb.trans (hb08.mono (by have h1 := hb.size; rw [HB.out] at h1; exact h1))
                    have Hbw8 := Lib.hid hbw8
                    clear ho8 hg8 hv8 hb8 ho8' hlist hM8 hcall hr9 hbw8 hb08 HO7 HS7
                    go_wp2_with fail
                    refine (Hcall.out).mono ?_
                    rintro e w10 ⟨a10, c10, cf, rfl, hF, hc10, hm10, hs10, hb10⟩
                    have hbw10 : Below B w w10 := Hbw8.out.trans (hb10.mono (by have h1 := Hbw8.out.size; rw [HB.out] at h1; exact h1))
                    by_cases hcf : cf = []
                    · subst hcf
                      have hno2 : RowKit.Hid (∀ v, v < k + 1 → ¬ Gr.SExt R L (way ++ [v])) := Lib.hid fun v hv => by
                        by_cases e : v = k
                        · rw [e]
                          rcases hF with ⟨_, h⟩ | ⟨h, _⟩
                          · exact h
                          · exact absurd rfl h.1
                        · exact hno.out v (by omega)
                      clear hno hF hs10
                      go_wp2_with fail
                      go_roundg (N - (k + 1))
                      case measure => rw [hgn.out]; omega
                      case rel => exact ⟨k + 1, Lib.hid rfl, by omega, by go_num, hno2, hbw10⟩
                    · have hpost : WalkPost B R L way w (.returned (.slice a10 cf.length c10)) w10 := ⟨a10, c10, cf, rfl, Gr.found_step hF hcf hno.out, hc10, hm10, hs10, hbw10⟩
                      have Hpost := Lib.hid hpost
                      have hcf0 : (0 : Int) < (cf.length : Int) := by have := List.length_pos_iff.2 hcf; omega
                      have hcf1 : decide (0 < cf.length) = true := by simp; omega
                      clear hpost hF hno hs10
                      go_wp2_with fail
                      go_ret
                      exact Hpost.out
      · have hki : ¬ ((k : Int) < (N : Int)) := by omega
        obtain rfl : N = k := by omega
        have hpost : WalkPost B R L way w (.returned (.slice none 0 0)) wo := ⟨none, 0, [], rfl, Gr.found_none hbd (by have := Hn.out; omega) hno.out, by simp, by unfold maxLen; omega, Sl.nil _ _ _ _, hb⟩
        have Hpost := Lib.hid hpost
        clear hpost hno
        go_wp2_with fail
        go_ret
        exact Hpost.out
end Go.Proofs.Yticpbiccgnfecaa


/-
  A transaction under way, walked: the keys that it reads, the last writes, which shards are concerned, the first one.
-/
import Derived.Test.YtmmgnbdngpkfcaaCoM
import Derived.Carry
import Derived.Deep.LoopGhost
import Derived.Outline
namespace Go.Proofs.Ytmmgnbdngpkfcaa
open Go.RowKit
set_option linter.unusedVariables false

theorem zero_bool (w : World) : (zeroValue 4).run Try.prog w = .ok (.bool false) w := by
  have h : (Try.prog.info? 4).map (fun i => i.zero) = some (some (.bool false)) := by kernel_rfl
  obtain ⟨i, hi, hz⟩ := Option.map_eq_some_iff.1 h
  simp [zeroValue, typeInfo, hi, hz]
theorem zero_int (w : World) : (zeroValue 3).run Try.prog w = .ok (.int .i64 0) w := by
  have h : (Try.prog.info? 3).map (fun i => i.zero) = some (some (.int .i64 0)) := by kernel_rfl
  obtain ⟨i, hi, hz⟩ := Option.map_eq_some_iff.1 h
  simp [zeroValue, typeInfo, hi, hz]
def setF (l : List Int) (z : Int) : Option Value := if z ∈ l then some (.bool true) else none
theorem setF_put (l : List Int) (k : Int) : updM (setF l) k (some (.bool true)) = setF (k :: l) := by
  funext z
  unfold updM setF
  by_cases h : z = k
  · simp [h]
  · simp [h]
theorem setF_get (l : List Int) (k : Int) : (setF l k).getD (.bool false) = .bool (decide (k ∈ l)) := by
  unfold setF
  by_cases h : k ∈ l <;> simp [h]
/-- what is owned lies in its own block -/
theorem own_other {te base b : Nat} {w w' : World} {v : Value} {l : List Int} (h : Own EInt te base w v l) (ho : Only (· = b) w w') (hb : b < base) : Own EInt te base w' v l :=
  OwnI.stay h fun g hg => ho.block g (h.lt g hg).2 (by have := (h.lt g hg).1; omega)

set_option maxRecDepth 4096 in
set_option maxHeartbeats 3200000 in
theorem co_reads {B g vm : Nat} {ov : Value} {T : Co.Tx} (at_ : Int) (E : Nat) (w : World) (hE : E = w.heap.size) (h : TxA B w g vm ov T) :
    Calls Try.prog 68 #[.pointer (some ⟨g, 0, none⟩), .int .i64 at_] w fun e w' => ∃ v, e = .returned v ∧ Own EInt 3 E w' v (Co.reads T.sh T.ops at_) ∧ (Co.reads T.sh T.ops at_).length ≤ 12 ∧ Below E w w' := by
  have c1 := h.c1
  obtain ⟨a, c, rfl, hc1, hc2, hs⟩ := h.ops
  obtain ⟨n, hn⟩ : ∃ n, n = T.ops.length := ⟨_, rfl⟩
  have hn12 : n ≤ 12 := by rw [hn]; exact h.right.many
  rw [← hn] at c1 hc1
  unfold maxLen at hc2
  have Hn := Lib.hid hn
  have Hs := Lib.hid hs
  have H := Lib.hid h
  have HE := Lib.hid hE
  clear hs hn h
  obtain ⟨w1, hw1⟩ : ∃ x, x = w.alloc (.map #[] 0) := ⟨_, rfl⟩
  have hm1 : IMap w1 w.heap.size 0 (setF []) := by rw [hw1]; exact IMap.made w
  have hb1 : Below w.heap.size w w1 := by rw [hw1]; exact alloc_below _ _
  have c11 := cell_thru c1 hb1
  rw [← hE] at hm1 hb1
  have hmm := @run_makeMap Try.prog
  go_enter Try.func68, Try.ntmps68
  go_upto_region 3 with fail
  rw [← hw1, ← hE]
  clear hmm hw1 hE c1
  go_wp2_with fail
  go_loopg [5, 15] n (fun gn u i wr => ∃ (k : Nat) (wl out : List Int) (v : Value), v = u ∧ RowKit.Hid (gn = n - k) ∧ k ≤ n ∧ i = .int .i64 k ∧ RowKit.Hid (Own EInt 3 (E + 1) wr v out) ∧ RowKit.Hid (IMap wr E k (setF wl)) ∧ RowKit.Hid (Co.rdGo T.sh at_ (T.ops.drop k) wl out = Co.reads T.sh T.ops at_) ∧ out.length ≤ k ∧ Below E w wr)
  case atStart => exact ⟨0, [], [], _, rfl, Lib.hid rfl, Nat.zero_le _, rfl, Lib.hid (Own.nil _ _ _ _), Lib.hid hm1, Lib.hid rfl, Nat.le_refl _, hb1⟩
  case round =>
    clear hm1 hb1 c11
    obtain ⟨k, wl, out, v, rfl, hgn, hk, rfl, ho, hm, hgo, hol, hb⟩ := hrel
    have hsz : E + 1 ≤ wr.heap.size := hm.out.lt
    by_cases hlt : k < n
    · have hki : (k : Int) < (n : Int) := by omega
      have hkT : k < T.ops.length := by rw [← Hn.out]; exact hlt
      have h' := H.out.keep (by rw [← HE.out]; exact hb)
      have hs' : Sl ECOp (fun k => k ≠ g ∧ k ≠ vm) wr a T.ops := Hs.out.below (by decide) (by rw [← HE.out]; exact hb)
      obtain ⟨b, o, rfl, _, p0, p1, p2, hx1, hx2, hx3⟩ := cop_at hs' k hkT
      have hkey := H.out.right.ops T.ops[k] (List.getElem_mem _)
      have hdrop : T.ops.drop k = T.ops[k] :: T.ops.drop (k + 1) := List.drop_eq_getElem_cons hkT
      obtain ⟨⟨x1, x2, x3⟩, hx⟩ : ∃ x, x = T.ops[k] := ⟨_, rfl⟩
      rw [← hx] at p0 p1 p2 hkey hx2 hdrop
      dsimp only at p0 p1 p2 hkey hx2
      have hgo' := hgo.out
      rw [hdrop] at hgo'
      have Hgo := Lib.hid hgo'
      clear hx hs' hdrop hgo hx1 hx3 hgo'
      obtain ⟨w4, hw4⟩ : ∃ x, x = wr.alloc (.cells #[.int .i64 x1, .int .i64 x2, .int .i64 x3] 47) := ⟨_, rfl⟩
      have hh4 : w4.heap[wr.heap.size]? = some (.cells #[.int .i64 x1, .int .i64 x2, .int .i64 x3] 47 (0, 0)) := by rw [hw4]; exact heap_alloc_new wr _
      have hb4 : Below wr.heap.size wr w4 := by rw [hw4]; exact alloc_below _ _
      obtain ⟨q, hq⟩ : ∃ q, q = wr.heap.size := ⟨_, rfl⟩
      rw [← hq] at hh4 hb4 hsz
      have k0 : w4.cell? ⟨q, 0, none⟩ = some (.int .i64 x1) := by simp [World.cell?, hh4]
      have k1 : w4.cell? ⟨q, 1, none⟩ = some (.int .i64 x2) := by simp [World.cell?, hh4]
      have k2 : w4.cell? ⟨q, 2, none⟩ = some (.int .i64 x3) := by simp [World.cell?, hh4]
      have hz4 : w4.heap.size = q + 1 := by rw [hw4, hq]; simp
      have ho4 : Own EInt 3 (E + 1) w4 v out := ho.out.below (by rw [← hq]; exact hb4)
      have hm4 : IMap w4 E k (setF wl) := hm.out.keep (hb4.block E (by omega))
      have hbB4 : Below E w w4 := hb.trans (hb4.mono (by omega))
      have hT4 := h'.keep (by rw [← hq]; exact hb4)
      have Ho4 := Lib.hid ho4
      have Hm4 := Lib.hid hm4
      have HbB4 := Lib.hid hbB4
      have HT4 := Lib.hid hT4
      clear h' hb4 ho4 hm4 hbB4 hT4 ho hm hb hh4
      go_upto_region 6 with fail
      rw [← hw4, ← hq]
      clear hw4 hq p0 p1 p2
      by_cases hx : x1 = 2
      · subst hx
        obtain ⟨w5, hup, hm5, ho5⟩ := IMap.store Hm4.out (t := 28) Try.underlying28 (by unfold maxLen; omega) (k := x2) (by unfold i64ok; omega) (.bool true)
        rw [setF_put] at hm5
        have Hm5 := Lib.hid hm5
        have Ho5 := Lib.hid ho5
        clear hm5 ho5
        go_wp2_with fail
        go_roundg (n - (k + 1))
        case measure => rw [hgn.out]; omega
        case rel => exact ⟨k + 1, x2 :: wl, out, _, rfl, Lib.hid rfl, by omega, by go_num, Lib.hid (own_other Ho4.out Ho5.out (by omega)), Hm5, Lib.hid (by have := Hgo.out; rw [Co.rdGo, if_pos rfl] at this; exact this), by omega, HbB4.out.trans (Ho5.out.below (by omega) (fun k hk => by omega))⟩
      · have hxb : (x1 == 2) = false := by simpa using hx
        have hlk := IMap.lookup Hm4.out (t := 28) Try.underlying28 (zero_bool w4) (k := x2) (by unfold i64ok; omega)
        rw [setF_get] at hlk
        have hgo2 := Hgo.out
        rw [Co.rdGo, if_neg hx] at hgo2
        dsimp only at hgo2
        have Hgo2 := Lib.hid hgo2
        have hxi : ¬ x1 = 2 := hx
        clear hgo2 Hgo hx
        have hskip : ¬ (x2 ∉ wl ∧ x2 % T.sh = at_ ∧ x2 ∉ out) → ∀ w6, Own EInt 3 (E + 1) w6 v out → IMap w6 E k (setF wl) → Below E w w6 → True := fun _ _ _ _ _ => trivial
        clear hskip
        by_cases hwr : x2 ∈ wl
        · have hd : decide (x2 ∈ wl) = true := decide_eq_true hwr
          rw [hd] at hlk
          have hr := Hgo2.out
          rw [if_neg (fun h => h.1 hwr)] at hr
          have Hr := Lib.hid hr
          clear hd hr hwr Hgo2
          go_wp2_with fail
          go_roundg (n - (k + 1))
          case measure => rw [hgn.out]; omega
          case rel => exact ⟨k + 1, wl, out, _, rfl, Lib.hid rfl, by omega, by go_num, Ho4, Lib.hid (Hm4.out.mono (by omega)), Hr, by omega, HbB4.out⟩
        · have hd : decide (x2 ∈ wl) = false := decide_eq_false hwr
          rw [hd] at hlk
          have Hwr := Lib.hid hwr
          clear hd hwr
          go_wp2_with fail
          refine (co_mod x2 w4 HT4.out hkey).mono ?_
          rintro e w5 ⟨rfl, hb5⟩
          have ho5 : Own EInt 3 (E + 1) w5 v out := Ho4.out.below hb5
          have hm5 : IMap w5 E k (setF wl) := Hm4.out.keep (hb5.block E (by omega))
          have hbB5 : Below E w w5 := HbB4.out.trans (hb5.mono (by omega))
          have k15 := cell_thru k1 hb5
          have k05 := cell_thru k0 hb5
          have k25 := cell_thru k2 hb5
          have hsz5 : E + 1 ≤ w5.heap.size := by have := hb5.size; omega
          have Ho5 := Lib.hid ho5
          have Hm5 := Lib.hid hm5
          have HbB5 := Lib.hid hbB5
          clear ho5 hm5 hbB5 hb5 hlk
          obtain ⟨md, hmd⟩ : ∃ m, m = x2 % T.sh := ⟨_, rfl⟩
          rw [← hmd]
          have Hmd := Lib.hid hmd
          clear hmd
          by_cases hat : md = at_
          · subst hat
            obtain ⟨av, cv, rfl, hcv, hmv, hrv, hov⟩ := Ho5.out.shape out.length rfl
            have Hrv := Lib.hid hrv
            clear hrv hov
            go_wp2_with fail
            refine (co_Contains av out.length cv out x2 w5 Hrv.out.2 rfl ⟨hcv, hmv⟩).mono ?_
            rintro e w6 ⟨rfl, rfl⟩
            by_cases hin : x2 ∈ out
            · rw [decide_eq_true hin]
              have hr := Hgo2.out
              rw [if_neg (fun h => h.2.2 hin)] at hr
              have Hr := Lib.hid hr
              clear hr hin Hgo2
              go_wp2_with fail
              go_roundg (n - (k + 1))
              case measure => rw [hgn.out]; omega
              case rel => exact ⟨k + 1, wl, out, _, rfl, Lib.hid rfl, by omega, by go_num, Ho5, Lib.hid (Hm5.out.mono (by omega)), Hr, by omega, HbB5.out⟩
            · rw [decide_eq_false hin]
              have hr := Hgo2.out
              rw [← Hmd.out, if_pos ⟨Hwr.out, rfl, hin⟩] at hr
              have Hr := Lib.hid hr
              have hb7 : Below w5.heap.size w5 (w5.alloc (.cells #[.int .i64 x2] 3)) := alloc_below _ _
              have ho7 := Ho5.out.below hb7
              have hsl7 : Sl EInt (fun b => some b ≠ (Value.slice av out.length cv).ownBlock) (w5.alloc (.cells #[.int .i64 x2] 3)) (some ⟨w5.heap.size, 0, none⟩) [x2] := sl_one (heap_alloc_new w5 _) ⟨rfl, hx2⟩ Ho5.out.fresh
              clear hr hin Hgo2
              go_wp2_with (first
                | (refine wpList_app EInt rfl rfl (by rfl) (by rfl) ti_cints ho7 rfl hsl7 (by unfold maxLen; simp; omega) (by simp; omega) (by simp; omega) ?_
                   intro v8 w8 ho8 hg8 hv8 hb8))
              go_roundg (n - (k + 1))
              case measure => rw [hgn.out]; omega
              case rel => exact ⟨k + 1, wl, out ++ [x2], _, rfl, Lib.hid rfl, by omega, by go_num, Lib.hid ho8, Lib.hid ((Hm5.out.keep ((hb8.block E (by omega)).trans (hb7.block E (by omega)))).mono (by omega)), Hr, by rw [List.length_append]; simp; omega, HbB5.out.trans ((hb7.mono (by omega)).trans (hb8.mono (by omega)))⟩
          · have hab : (md == at_) = false := by simpa using hat
            have hr := Hgo2.out
            rw [← Hmd.out, if_neg (fun h => hat h.2.1)] at hr
            have Hr := Lib.hid hr
            clear hr hat Hgo2
            go_wp2_with fail
            go_roundg (n - (k + 1))
            case measure => rw [hgn.out]; omega
            case rel => exact ⟨k + 1, wl, out, _, rfl, Lib.hid rfl, by omega, by go_num, Ho5, Lib.hid (Hm5.out.mono (by omega)), Hr, by omega, HbB5.out⟩
    · have hki : ¬ ((k : Int) < (n : Int)) := by omega
      have hkn : k = n := by omega
      have hr := hgo.out
      rw [List.drop_of_length_le (by rw [← Hn.out]; omega)] at hr
      have Hr := Lib.hid hr
      clear hr
      go_wp2_with fail
      go_ret
      exact ⟨v, rfl, by rw [← Hr.out]; exact ho.out.base (by omega), by rw [← Hr.out]; show out.length ≤ 12; omega, hb⟩

/-- 'x[i:]', whatever the elements are -/
theorem slice_fG {α : Type} {E : Enc α} {P : Program} {t te : TypeId} {bytes : Nat} (ti : ElemInfo P t te E.sz bytes) {ok : Nat → Prop} {w : World} {a : Option Addr} {n c i : Nat} {l : List α} (h : Sl E ok w a l) (hm : n = l.length) (hi : i ≤ n) (hn : n ≤ c) :
    ∃ a', (∀ (W : World), (Instr.slice t (.slice a n c) (some (.int .i64 i)) none none).run P W = .ok (.slice a' (n - i) (c - i)) W) ∧ Sl E ok w a' (l.drop i) := by
  obtain ⟨i0, z, hi0, hz, hsz, hby, hzc⟩ := ti.info
  refine ⟨if c = i then a else a.map (·.add (i * E.sz)), fun W => ?_, ?_⟩
  · have e3 : (n : Int) ≤ (c : Int) := by omega
    have e4 : (i : Int) ≤ (n : Int) := by omega
    simp [Instr.slice, run_underlying ti.under, Instr.sliceBounds, run_sliceBound, sizeOf, typeInfo, hi0, hsz, hi]
  · have := h.cut (c := c) (i := i) (j := n) hi (by omega) (by omega) (decide (c = i)) (by simp; omega)
    simp only [decide_eq_true_eq] at this
    rw [List.take_of_length_le (by rw [List.length_drop]; omega)] at this
    exact this

set_option maxRecDepth 4096 in
set_option maxHeartbeats 3200000 in
theorem co_writes {B g vm : Nat} {ov : Value} {T : Co.Tx} (at_ : Int) (E : Nat) (w : World) (hE : E = w.heap.size) (h : TxA B w g vm ov T) :
    Calls Try.prog 70 #[.pointer (some ⟨g, 0, none⟩), .int .i64 at_] w fun e w' => ∃ v, e = .returned v ∧ Own ECOp 47 E w' v (Co.writes T.sh T.ops at_) ∧ (Co.writes T.sh T.ops at_).length ≤ 12 ∧ Below E w w' := by
  have c1 := h.c1
  obtain ⟨a, c, rfl, hc1, hc2, hs⟩ := h.ops
  obtain ⟨n, hn⟩ : ∃ n, n = T.ops.length := ⟨_, rfl⟩
  have hn12 : n ≤ 12 := by rw [hn]; exact h.right.many
  rw [← hn] at c1 hc1
  have hc2' := hc2
  unfold maxLen at hc2
  have Hn := Lib.hid hn
  have Hs := Lib.hid hs
  have H := Lib.hid h
  have HE := Lib.hid hE
  clear hs hn h hE
  go_enter Try.func70, Try.ntmps70
  go_wp2_with fail
  go_loopg [5, 14] n (fun gn u i wr => ∃ (k : Nat) (out : List Co.Op) (v : Value), v = u ∧ RowKit.Hid (gn = n - k) ∧ k ≤ n ∧ i = .int .i64 k ∧ RowKit.Hid (Own ECOp 47 E wr v out) ∧ RowKit.Hid (out ++ Co.writes T.sh (T.ops.drop k) at_ = Co.writes T.sh T.ops at_) ∧ out.length ≤ k ∧ Below E w wr)
  case atStart => exact ⟨0, [], _, rfl, Lib.hid rfl, Nat.zero_le _, rfl, Lib.hid (Own.nil _ _ _ _), Lib.hid rfl, Nat.le_refl _, Below.refl _ _⟩
  case round =>
    clear c1
    obtain ⟨k, out, v, rfl, hgn, hk, rfl, ho, hgo, hol, hb⟩ := hrel
    have hsz : E ≤ wr.heap.size := by rw [HE.out]; exact hb.size
    by_cases hlt : k < n
    · have hki : (k : Int) < (n : Int) := by omega
      have hkT : k < T.ops.length := by rw [← Hn.out]; exact hlt
      have h' := H.out.keep (by rw [← HE.out]; exact hb)
      have hs' : Sl ECOp (fun k => k ≠ g ∧ k ≠ vm) wr a T.ops := Hs.out.below (by decide) (by rw [← HE.out]; exact hb)
      obtain ⟨aD, hcut, hsD⟩ := slice_fG ti_cops (i := k + 1) hs' Hn.out (by omega) hc1
      rw [show ((k + 1 : Nat) : Int) = (k : Int) + 1 by omega] at hcut
      obtain ⟨b, o, rfl, _, p0, p1, p2, hx1, hx2, hx3⟩ := cop_at hs' k hkT
      have hkey := H.out.right.ops T.ops[k] (List.getElem_mem _)
      have hdrop : T.ops.drop k = T.ops[k] :: T.ops.drop (k + 1) := List.drop_eq_getElem_cons hkT
      obtain ⟨⟨x1, x2, x3⟩, hx⟩ : ∃ x, x = T.ops[k] := ⟨_, rfl⟩
      rw [← hx] at p0 p1 p2 hkey hx1 hx2 hx3 hdrop
      dsimp only at p0 p1 p2 hkey hx1 hx2 hx3
      have hgo' := hgo.out
      rw [hdrop, Co.writes] at hgo'
      dsimp only at hgo'
      have Hgo := Lib.hid hgo'
      have hadd : IntKind.i64.wrap ((k : Int) + 1) = (k : Int) + 1 := IntWalk.i64_in _ (by omega)
      clear hx hs' hdrop hgo hgo'
      obtain ⟨w4, hw4⟩ : ∃ x, x = wr.alloc (.cells #[.int .i64 x1, .int .i64 x2, .int .i64 x3] 47) := ⟨_, rfl⟩
      have hh4 : w4.heap[wr.heap.size]? = some (.cells #[.int .i64 x1, .int .i64 x2, .int .i64 x3] 47 (0, 0)) := by rw [hw4]; exact heap_alloc_new wr _
      have hb4 : Below wr.heap.size wr w4 := by rw [hw4]; exact alloc_below _ _
      obtain ⟨q, hq⟩ : ∃ q, q = wr.heap.size := ⟨_, rfl⟩
      rw [← hq] at hh4 hb4 hsz
      have k0 : w4.cell? ⟨q, 0, none⟩ = some (.int .i64 x1) := by simp [World.cell?, hh4]
      have k1 : w4.cell? ⟨q, 1, none⟩ = some (.int .i64 x2) := by simp [World.cell?, hh4]
      have k2 : w4.cell? ⟨q, 2, none⟩ = some (.int .i64 x3) := by simp [World.cell?, hh4]
      have ho4 : Own ECOp 47 E w4 v out := ho.out.below (by rw [← hq]; exact hb4)
      have hbB4 : Below E w w4 := hb.trans (hb4.mono hsz)
      have hT4 := h'.keep (by rw [← hq]; exact hb4)
      have hz4 : q + 1 = w4.heap.size := by rw [hw4, hq]; simp
      have hsD4 : Sl ECOp (fun _ => True) w4 aD (T.ops.drop (k + 1)) := (hsD.below (by decide) (by rw [← hq]; exact hb4)).any (by decide)
      have Ho4 := Lib.hid ho4
      have HbB4 := Lib.hid hbB4
      have HT4 := Lib.hid hT4
      have HsD := Lib.hid hsD4
      have Hz4 := Lib.hid hz4
      clear h' hb4 ho4 hbB4 hT4 ho hb hh4 hsD4 hsD hz4
      go_upto_region 5 with fail
      rw [← hw4, ← hq]
      clear hw4 hq p0 p1 p2
      have hskip : Co.writes T.sh T.ops at_ = out ++ Co.writes T.sh (T.ops.drop (k + 1)) at_ → ∀ w6, Below w4.heap.size w4 w6 → ∃ (k' : Nat) (out' : List Co.Op) (v' : Value), v' = v ∧ RowKit.Hid (n - (k + 1) = n - k') ∧ k' ≤ n ∧ Value.int .i64 ((k : Int) + 1) = .int .i64 k' ∧ RowKit.Hid (Own ECOp 47 E w6 v' out') ∧ RowKit.Hid (out' ++ Co.writes T.sh (T.ops.drop k') at_ = Co.writes T.sh T.ops at_) ∧ out'.length ≤ k' ∧ Below E w w6 := fun h1 w6 hb6 =>
        ⟨k + 1, out, v, rfl, Lib.hid rfl, by omega, by go_num, Lib.hid (Ho4.out.below hb6), Lib.hid h1.symm, by omega, HbB4.out.trans (hb6.mono (by have := Hz4.out; omega))⟩
      have Hskip := Lib.hid hskip
      clear hskip
      by_cases hx : x1 = 2
      · subst hx
        have hgo2 := Hgo.out
        rw [show ((2 : Int) == 2) = true from rfl, Bool.true_and] at hgo2
        have Hgo2 := Lib.hid hgo2
        clear hgo2 Hgo
        go_wp2_with fail
        refine (co_mod x2 w4 HT4.out hkey).mono ?_
        rintro e w5 ⟨rfl, hb5⟩
        have k15 := cell_thru k1 hb5
        have k05 := cell_thru k0 hb5
        have k25 := cell_thru k2 hb5
        have hT5 := HT4.out.keep hb5
        have c15 := hT5.c1
        rw [← Hn.out] at c15
        have hsD5 : Sl ECOp (fun _ => True) w5 aD (T.ops.drop (k + 1)) := HsD.out.below (by decide) hb5
        have HsD5 := Lib.hid hsD5
        have Hb5 := Lib.hid hb5
        clear hb5 hT5 hsD5
        obtain ⟨md, hmd⟩ : ∃ m, m = x2 % T.sh := ⟨_, rfl⟩
        rw [← hmd]
        have Hmd := Lib.hid hmd
        clear hmd
        by_cases hat : md = at_
        · subst hat
          have hgo3 := Hgo2.out
          rw [← Hmd.out, show (md == md) = true from beq_self_eq_true md, Bool.true_and] at hgo3
          have Hgo3 := Lib.hid hgo3
          clear hgo3 Hgo2
          go_wp2_with fail
          refine (co_anyW aD (n - (k + 1)) (c - (k + 1)) (T.ops.drop (k + 1)) q x2 w5 HsD5.out (by rw [List.length_drop, ← Hn.out]) ⟨by omega, by unfold maxLen; omega⟩ k15).mono ?_
          rintro e w6 ⟨rfl, hb6⟩
          have k16 := cell_thru k15 hb6
          have k06 := cell_thru k05 hb6
          have k26 := cell_thru k25 hb6
          have hb46 : Below w4.heap.size w4 w6 := Hb5.out.trans (hb6.mono Hb5.out.size)
          have Hb46 := Lib.hid hb46
          clear hb6 hb46
          have hl : ((T.ops.drop (k + 1)).any fun x => x.1 == 2 && x.2.1 == x2) = Co.later (T.ops.drop (k + 1)) x2 := rfl
          rw [hl]
          obtain ⟨lt, hlt2⟩ : ∃ l, l = Co.later (T.ops.drop (k + 1)) x2 := ⟨_, rfl⟩
          rw [← hlt2]
          have hgo4 := Hgo3.out
          rw [← hlt2] at hgo4
          have Hgo4 := Lib.hid hgo4
          clear hl hlt2 hgo4 Hgo3
          cases lt
          · have hr := Hgo4.out
            rw [show (!false) = true from rfl, if_pos rfl] at hr
            have Hr := Lib.hid hr
            have ho6 := Ho4.out.below Hb46.out
            have hb7 : Below w6.heap.size w6 (w6.alloc (.cells #[.int .i64 2, .int .i64 x2, .int .i64 x3] 47)) := alloc_below _ _
            have ho7 := ho6.below hb7
            have hsl7 : Sl ECOp (fun b => some b ≠ v.ownBlock) (w6.alloc (.cells #[.int .i64 2, .int .i64 x2, .int .i64 x3] 47)) (some ⟨w6.heap.size, 0, none⟩) [(2, x2, x3)] := sl_one (heap_alloc_new w6 _) (cop_mk (2, x2, x3) hx1 hx2 hx3) ho6.fresh
            have hz6 : E ≤ w6.heap.size := by have := Hb46.out.size; have := Hz4.out; omega
            clear hr Hgo4 ho6
            go_wp2_with (first
              | (refine wpList_app ECOp rfl rfl (by rfl) (by rfl) ti_cops ho7 rfl hsl7 (by unfold maxLen; simp; omega) (by simp; omega) (by simp; omega) ?_
                 intro v8 w8 ho8 hg8 hv8 hb8))
            go_roundg (n - (k + 1))
            case measure => rw [hgn.out]; omega
            case rel => exact ⟨k + 1, out ++ [(2, x2, x3)], _, rfl, Lib.hid rfl, by omega, by go_num, Lib.hid ho8, Lib.hid (by rw [List.append_assoc]; exact Hr.out), by rw [List.length_append]; simp; omega, HbB4.out.trans ((Hb46.out.mono (by have := Hz4.out; omega)).trans ((hb7.mono hz6).trans hb8))⟩
          · have hr := Hgo4.out
            rw [if_neg (by decide)] at hr
            have Hsk := Lib.hid (Hskip.out hr.symm w6 Hb46.out)
            clear hr Hgo4
            go_wp2_with fail
            go_roundg (n - (k + 1))
            case measure => rw [hgn.out]; omega
            case rel => exact Hsk.out
        · have hab : (md == at_) = false := by simpa using hat
          have hr := Hgo2.out
          rw [← Hmd.out, hab, Bool.false_and, if_neg (by decide)] at hr
          have Hsk := Lib.hid (Hskip.out hr.symm w5 Hb5.out)
          clear hr hat Hgo2
          go_wp2_with fail
          go_roundg (n - (k + 1))
          case measure => rw [hgn.out]; omega
          case rel => exact Hsk.out
      · have hxb : (x1 == 2) = false := by simpa using hx
        have hr := Hgo.out
        rw [hxb, Bool.false_and, if_neg (by decide)] at hr
        have Hsk := Lib.hid (Hskip.out hr.symm w4 (Below.refl _ _))
        clear hr hx Hgo
        go_wp2_with fail
        go_roundg (n - (k + 1))
        case measure => rw [hgn.out]; omega
        case rel => exact Hsk.out
    · have hki : ¬ ((k : Int) < (n : Int)) := by omega
      have hr := hgo.out
      rw [List.drop_of_length_le (by rw [← Hn.out]; omega), Co.writes, List.append_nil] at hr
      have Hr := Lib.hid hr
      clear hr
      go_wp2_with fail
      go_ret
      exact ⟨v, rfl, by rw [← Hr.out]; exact ho.out, by rw [← Hr.out]; show out.length ≤ 12; omega, hb⟩
end Go.Proofs.Ytmmgnbdngpkfcaa

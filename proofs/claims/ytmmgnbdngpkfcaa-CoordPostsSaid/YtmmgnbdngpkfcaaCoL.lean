
/-
  A transaction, walked: what became of it.
-/
import Derived.Test.YtmmgnbdngpkfcaaCoK
namespace Go.Proofs.Ytmmgnbdngpkfcaa
open Go.RowKit
set_option linter.unusedVariables false

def mI (f : Int → Option Int) : Int → Option Value := fun z => (f z).map (.int .i64)
theorem mI_put (f : Int → Option Int) (k v : Int) : updM (mI f) k (some (.int .i64 v)) = mI (fun z => if z = k then some v else f z) := by
  funext z
  unfold updM mI
  by_cases h : z = k <;> simp [h]
theorem mI_get (f : Int → Option Int) (k : Int) : (mI f k).getD (.int .i64 0) = .int .i64 ((f k).getD 0) := by
  unfold mI
  cases f k <;> rfl
theorem mI_some (f : Int → Option Int) (k : Int) : (mI f k).isSome = (f k).isSome := by
  unfold mI
  cases f k <;> rfl
theorem mI_none : mI (fun _ => none) = fun _ => none := by
  funext z; rfl

theorem co_Result_nil (w : World) :
    Calls Try.prog 21 #[.pointer none] w fun e w' => e = .returned (.tuple #[.int .i64 0, .slice none 0 0]) ∧ w = w' := by
  go_enter Try.func21, Try.ntmps21
  go_wp2_with fail
  refine bodyPost_ret (v := .tuple #[.int .i64 0, .slice none 0 0]) (by simp [results, Try.results21, go_sem]) rfl ?_
  exact ⟨rfl, rfl⟩

set_option maxRecDepth 100000 in
set_option maxHeartbeats 3200000 in
theorem co_Result {B g vm : Nat} {ov : Value} {T : Co.Tx} (E : Nat) (w : World) (hE : E = w.heap.size) (h : TxA B w g vm ov T) :
    Calls Try.prog 21 #[.pointer (some ⟨g, 0, none⟩)] w fun e w' => ∃ v, e = .returned (.tuple #[.int .i64 T.res, v]) ∧ Own ECOp 47 E w' v (Co.told T) ∧ Below E w w' := by
  have c18 := h.c18
  have c1 := h.c1
  obtain ⟨a, c, rfl, hc1, hc2, hs⟩ := h.ops
  obtain ⟨n, hn⟩ : ∃ n, n = T.ops.length := ⟨_, rfl⟩
  have hn12 : n ≤ 12 := by rw [hn]; exact h.right.many
  rw [← hn] at c1 hc1
  unfold maxLen at hc2
  have Hn := Lib.hid hn
  have Hs := Lib.hid hs
  have H := Lib.hid h
  have HE := Lib.hid hE
  clear hs hn h
  obtain ⟨rs, hrs⟩ : ∃ r, r = T.res := ⟨_, rfl⟩
  rw [← hrs] at c18 ⊢
  have Hrs := Lib.hid hrs
  clear hrs
  by_cases hr : rs = 2
  · subst hr
    have ht : Co.told T = Co.tellGo T.vals T.ops (fun _ => none) := by unfold Co.told; rw [if_pos Hrs.out.symm]
    rw [ht]
    clear ht
    obtain ⟨w1, hw1⟩ : ∃ x, x = w.alloc (.map #[] 0) := ⟨_, rfl⟩
    have hm1 : IMap w1 w.heap.size 0 (mI fun _ => none) := by rw [hw1, mI_none]; exact IMap.made w
    have hb1 : Below w.heap.size w w1 := by rw [hw1]; exact alloc_below _ _
    have c11 := cell_thru c1 hb1
    rw [← hE] at hm1 hb1
    have hmm := @run_makeMap Try.prog
    go_enter Try.func21, Try.ntmps21
    go_upto_region 6 with fail
    rw [← hw1, ← hE]
    clear hmm hw1 hE c1 c18
    go_wp2_with fail
    go_loopg [5, 31] n (fun gn u i wr => ∃ (k : Nat) (own : Int → Option Int) (out : List Co.Op) (v : Value), v = u ∧ RowKit.Hid (gn = n - k) ∧ k ≤ n ∧ i = .int .i64 k ∧ RowKit.Hid (Own ECOp 47 (E + 1) wr v out) ∧ RowKit.Hid (IMap wr E k (mI own)) ∧ RowKit.Hid (out ++ Co.tellGo T.vals (T.ops.drop k) own = Co.tellGo T.vals T.ops (fun _ => none)) ∧ out.length ≤ k ∧ Below E w wr ∧ RowKit.Hid (∀ z x, own z = some x → -9223372036854775808 ≤ x ∧ x ≤ 9223372036854775807))
    case atStart => exact ⟨0, _, [], _, rfl, Lib.hid rfl, Nat.zero_le _, rfl, Lib.hid (Own.nil _ _ _ _), Lib.hid hm1, Lib.hid rfl, Nat.le_refl _, hb1, Lib.hid fun z x h => by cases h⟩
    case round =>
      clear hm1 hb1 c11
      obtain ⟨k, own, out, v, rfl, hgn, hk, rfl, ho, hm, hgo, hol, hb, hov⟩ := hrel
      have hsz : E + 1 ≤ wr.heap.size := hm.out.lt
      by_cases hlt : k < n
      · have hki : (k : Int) < (n : Int) := by omega
        have hkT : k < T.ops.length := by rw [← Hn.out]; exact hlt
        have h' := H.out.keep (by rw [← HE.out]; exact hb)
        have hs' : Sl ECOp (fun k => k ≠ g ∧ k ≠ vm) wr a T.ops := Hs.out.below (by decide) (by rw [← HE.out]; exact hb)
        obtain ⟨b, o, rfl, _, p0, p1, p2, hx1, hx2, hx3⟩ := cop_at hs' k hkT
        have hkey := H.out.right.ops T.ops[k] (List.getElem_mem _)
        have hdrop : T.ops.drop k = T.ops[k] :: T.ops.drop (k + 1) := List.drop_eq_getElem_cons hkT
        obtain ⟨⟨x1, x2, x3⟩, hx⟩ : ∃ x, x = T.ops[k] := ⟨_, rfl⟩
        rw [← hx] at p0 p1 p2 hkey hx1 hx2 hx3 hdrop
        dsimp only at p0 p1 p2 hkey hx1 hx2 hx3
        have hgo' := hgo.out
        rw [hdrop, Co.tellGo] at hgo'
        have Hgo := Lib.hid hgo'
        have Hx1 := Lib.hid hx1
        have Hx2 := Lib.hid hx2
        have Hx3 := Lib.hid hx3
        clear hx hs' hdrop hgo hgo' hx1 hx2 hx3
        obtain ⟨w4, hw4⟩ : ∃ x, x = wr.alloc (.cells #[.int .i64 x1, .int .i64 x2, .int .i64 x3] 47) := ⟨_, rfl⟩
        have hh4 : w4.heap[wr.heap.size]? = some (.cells #[.int .i64 x1, .int .i64 x2, .int .i64 x3] 47 (0, 0)) := by rw [hw4]; exact heap_alloc_new wr _
        have hb4 : Below wr.heap.size wr w4 := by rw [hw4]; exact alloc_below _ _
        obtain ⟨q, hq⟩ : ∃ q, q = wr.heap.size := ⟨_, rfl⟩
        rw [← hq] at hh4 hb4 hsz
        have k0 : w4.cell? ⟨q, 0, none⟩ = some (.int .i64 x1) := by simp [World.cell?, hh4]
        have k1 : w4.cell? ⟨q, 1, none⟩ = some (.int .i64 x2) := by simp [World.cell?, hh4]
        have k2 : w4.cell? ⟨q, 2, none⟩ = some (.int .i64 x3) := by simp [World.cell?, hh4]
        have kf : w4.frozen? ⟨q, 2, none⟩ = false := by simp [World.frozen?, hh4]
        have hz4 : w4.heap.size = q + 1 := by rw [hw4, hq]; simp
        have ho4 : Own ECOp 47 (E + 1) w4 v out := ho.out.below (by rw [← hq]; exact hb4)
        have hoq : ∀ g', v.ownBlock = some g' → g' ≠ q := fun g' hg' => by have := (ho.out.lt g' hg').2; omega
        have hm4 : IMap w4 E k (mI own) := hm.out.keep (hb4.block E (by omega))
        have hbB4 : Below E w w4 := hb.trans (hb4.mono (by omega))
        have hT4 := h'.keep (by rw [← hq]; exact hb4)
        have c17 := hT4.c17
        have Ho4 := Lib.hid ho4
        have Hoq := Lib.hid hoq
        have Hm4 := Lib.hid hm4
        have Hh4 := Lib.hid hh4
        have HbB4 := Lib.hid hbB4
        have HT4 := Lib.hid hT4
        clear h' hb4 ho4 hm4 hbB4 hT4 ho hm hb hh4 hoq
        go_upto_if 37 with fail
        rw [← hw4, ← hq]
        clear hw4 hq p0 p1 p2
        go_cut [] from 35 to 61 (fun wx => ∃ (own' : Int → Option Int) (x' : Int), wx.heap[q]? = some (.cells #[.int .i64 x1, .int .i64 x2, .int .i64 x'] 47 (0, 0)) ∧ Own ECOp 47 (E + 1) wx v out ∧ IMap wx E (k + 1) (mI own') ∧ (out ++ (x1, x2, x') :: Co.tellGo T.vals (T.ops.drop (k + 1)) own' = Co.tellGo T.vals T.ops (fun _ => none)) ∧ Below E w wx ∧ (∀ z x, own' z = some x → -9223372036854775808 ≤ x ∧ x ≤ 9223372036854775807) ∧ (-9223372036854775808 ≤ x' ∧ x' ≤ 9223372036854775807) ∧ q + 1 ≤ wx.heap.size)
        case first =>
          by_cases hx : x1 = 2
          · subst hx
            obtain ⟨w5, hup, hm5, ho5⟩ := IMap.store Hm4.out (t := 129) Try.underlying129 (by unfold maxLen; omega) (k := x2) (by unfold i64ok; omega) (.int .i64 x3)
            rw [mI_put] at hm5
            have Hm5 := Lib.hid hm5
            have Ho5 := Lib.hid ho5
            have hgo2 := Hgo.out
            rw [if_pos rfl] at hgo2
            have Hgo2 := Lib.hid hgo2
            clear hm5 ho5 hgo2 Hgo
            go_wp2_with fail
            go_meet
            refine ⟨_, x3, (Ho5.out.block q (by omega) (by omega)).trans Hh4.out, OwnC.stay Ho4.out fun g' hg' => Ho5.out.block g' (Ho4.out.lt g' hg').2 (by have := (Ho4.out.lt g' hg').1; omega), Hm5.out, ?_, HbB4.out.trans (Ho5.out.below (by omega) fun k hk => by omega), fun z x h => ?_, Hx3.out, by have := Ho5.out.size; omega⟩
            · exact Hgo2.out
            · try dsimp only at h
              split at h
              · injection h with h; rw [← h]; exact Hx3.out
              · exact hov.out z x h
          · have hxb : (x1 == 2) = false := by simpa using hx
            have hgo2 := Hgo.out
            rw [if_neg hx] at hgo2
            dsimp only at hgo2
            have hlk := IMap.look_ok Hm4.out (t := 129) Try.underlying129 (zero_int w4) (k := x2) (by unfold i64ok; omega)
            rw [mI_get, mI_some] at hlk
            have hfin : ∀ (x' : Int) (W : World), W.heap = (w4.setCell ⟨q, 2, none⟩ (.int .i64 x')).heap → Below E w W → (out ++ (x1, x2, x') :: Co.tellGo T.vals (T.ops.drop (k + 1)) own = Co.tellGo T.vals T.ops (fun _ => none)) → (-9223372036854775808 ≤ x' ∧ x' ≤ 9223372036854775807) →
                ∃ (own' : Int → Option Int) (x' : Int), W.heap[q]? = some (.cells #[.int .i64 x1, .int .i64 x2, .int .i64 x'] 47 (0, 0)) ∧ Own ECOp 47 (E + 1) W v out ∧ IMap W E (k + 1) (mI own') ∧ (out ++ (x1, x2, x') :: Co.tellGo T.vals (T.ops.drop (k + 1)) own' = Co.tellGo T.vals T.ops (fun _ => none)) ∧ Below E w W ∧ (∀ z x, own' z = some x → -9223372036854775808 ≤ x ∧ x ≤ 9223372036854775807) ∧ (-9223372036854775808 ≤ x' ∧ x' ≤ 9223372036854775807) ∧ q + 1 ≤ W.heap.size := fun x' W hW hB he hr =>
              ⟨own, x', by rw [hW]; exact heap_set Hh4.out 2 _, OwnC.stay Ho4.out fun g' hg' => by rw [hW]; exact heap_setOther _ (Hoq.out g' hg') _ _, (Hm4.out.keep (by rw [hW]; exact heap_setOther _ (by omega) _ _)).mono (by omega), he, hB, hov.out, hr, by rw [hW]; simp; omega⟩
            have Hfin := Lib.hid hfin
            clear hfin
            cases hmine : own x2 with
            | some y =>
              rw [hmine] at hlk hgo2
              have Hgo2 := Lib.hid hgo2
              have Hy := Lib.hid (hov.out x2 y hmine)
              clear hgo2 Hgo hx hmine
              go_wp2_with fail
              go_meet
              exact Hfin.out y _ rfl (setCell_below HbB4.out (by omega) _ _) Hgo2.out Hy.out
            | none =>
              rw [hmine] at hlk hgo2
              have hlk2 := IMap.lookup (HT4.out.map.keep (w' := w4.drew) rfl) (t := 129) Try.underlying129 (zero_int w4.drew) (k := x2) (by unfold i64ok; omega)
              rw [show ((T.vals x2).map (Value.int .i64)).getD (.int .i64 0) = .int .i64 ((T.vals x2).getD 0) from mI_get T.vals x2] at hlk2
              have Hgo2 := Lib.hid hgo2
              clear hgo2 Hgo hx hmine
              go_wp2_with fail
              have hvr : -9223372036854775808 ≤ (T.vals x2).getD 0 ∧ (T.vals x2).getD 0 ≤ 9223372036854775807 := by
                cases hv : T.vals x2 with
                | none => simp
                | some z => exact (H.out.right.vals x2 z hv).2
              have Hvr := Lib.hid hvr
              clear hvr
              go_region
              go_wp2_with fail
              go_meet
              exact Hfin.out _ _ rfl (setCell_below HbB4.out (by omega) _ _).drew Hgo2.out Hvr.out
        obtain ⟨wy, hwy⟩ : ∃ x, x = wc := ⟨_, rfl⟩
        subst hwy
        obtain ⟨own', x', hh5, ho5, hm5, hg5, hb5, hov5, hx5, hz5⟩ := hcut
        have k0 : wy.cell? ⟨q, 0, none⟩ = some (.int .i64 x1) := by simp [World.cell?, hh5]
        have k1 : wy.cell? ⟨q, 1, none⟩ = some (.int .i64 x2) := by simp [World.cell?, hh5]
        have k2 : wy.cell? ⟨q, 2, none⟩ = some (.int .i64 x') := by simp [World.cell?, hh5]
        have hb7 : Below wy.heap.size wy (wy.alloc (.cells #[.int .i64 x1, .int .i64 x2, .int .i64 x'] 47)) := alloc_below _ _
        have ho7 := ho5.below hb7
        have hsl7 : Sl ECOp (fun b => some b ≠ v.ownBlock) (wy.alloc (.cells #[.int .i64 x1, .int .i64 x2, .int .i64 x'] 47)) (some ⟨wy.heap.size, 0, none⟩) [(x1, x2, x')] := sl_one (heap_alloc_new wy _) (cop_mk (x1, x2, x') Hx1.out Hx2.out hx5) ho5.fresh
        have Hm5 := Lib.hid hm5
        have Hg5 := Lib.hid hg5
        have Hb5 := Lib.hid hb5
        have Hov5 := Lib.hid hov5
        clear hh5 ho5 hm5 hg5 hb5 hov5 hx5 c17 kf
        go_wp2_with (first
          | (refine wpList_app ECOp rfl rfl (by rfl) (by rfl) ti_cops ho7 rfl hsl7 (by unfold maxLen; simp; omega) (by simp; omega) (by simp; omega) ?_
             intro v8 w8 ho8 hg8 hv8 hb8))
        go_roundg (n - (k + 1))
        case measure => rw [hgn.out]; omega
        case rel => exact ⟨k + 1, own', out ++ [(x1, x2, x')], _, rfl, Lib.hid rfl, by omega, by go_num, Lib.hid ho8, Lib.hid (Hm5.out.keep ((hb8.block E (by omega)).trans (hb7.block E (by omega)))), Lib.hid (by rw [List.append_assoc]; exact Hg5.out), by rw [List.length_append]; simp; omega, Hb5.out.trans ((hb7.mono (by omega)).trans (hb8.mono (by omega))), Hov5⟩
      · have hki : ¬ ((k : Int) < (n : Int)) := by omega
        have hr := hgo.out
        rw [List.drop_of_length_le (by rw [← Hn.out]; omega), Co.tellGo, List.append_nil] at hr
        have Hr := Lib.hid hr
        clear hr
        go_wp2_with fail
        refine bodyPost_ret (v := .tuple #[.int .i64 2, v]) (by simp [results, Try.results21, go_sem]) rfl ?_
        exact ⟨v, rfl, by rw [← Hr.out]; exact ho.out.base (by omega), hb⟩
  · have hrb : (rs == 2) = false := by simpa using hr
    have ht : Co.told T = [] := by unfold Co.told; rw [if_neg (by rw [← Hrs.out]; exact hr)]
    rw [ht]
    clear ht hE
    go_enter Try.func21, Try.ntmps21
    go_wp2_with fail
    refine bodyPost_ret (v := .tuple #[.int .i64 rs, .slice none 0 0]) (by simp [results, Try.results21, go_sem]) rfl ?_
    exact ⟨_, rfl, Own.nil _ _ _ _, by rw [HE.out]; exact Below.refl _ _⟩
end Go.Proofs.Ytmmgnbdngpkfcaa

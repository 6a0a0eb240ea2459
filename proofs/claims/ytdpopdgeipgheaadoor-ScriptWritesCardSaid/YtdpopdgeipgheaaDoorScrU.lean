
/-
  Scripts that are small: their bits; steps that come in; what stands ahead of a place in a slice of steps.
-/
import Derived.Test.YtdpopdgeipgheaaDoorScrEq
import Derived.BigFrame
namespace Go.Proofs.YtdpopdgeipgheaaDoor
open Go.RowKit
set_option linter.unusedVariables false

theorem stp_ok {ok : Nat → Prop} {w : World} {a : Option Addr} {L : List Sc.Step} (h : Sl EStp ok w a L) : ∀ s ∈ L, Sc.stepOk s := by
  intro s hs
  obtain ⟨j, hj, rfl⟩ := List.getElem_of_mem hs
  obtain ⟨b, o, aK, cK, _, _, _, _, _, _, i0, i1, i2, hcK, hmK, hsK⟩ := sl_stp h j hj
  refine ⟨i0, i1, i2, by unfold maxLen at hmK; omega, fun k hk => ?_⟩
  obtain ⟨q, hq, rfl⟩ := List.getElem_of_mem hk
  obtain ⟨_, _, _, _, _, r⟩ := sl_i hsK q hq
  exact r
namespace Sc
theorem small_bits {c : Conf} {L : List Step} (hc : c.1.length = 15) (hl : L.length ≤ 200) (hk : ∀ s ∈ L, s.2.2.2.length ≤ 50) : (allBits (c, L)).length ≤ 1400000 := by
  have h1 := numsBits_len c.1
  have h2 := num_le (BitVec.ofInt 64 L.length)
  have h3 := stepsBits_len L 50 hk
  have h4 : L.length * (516 + 50 * 129) ≤ 200 * (516 + 50 * 129) := Nat.mul_le_mul_right _ hl
  simp only [allBits, confBits, List.length_append, Bts.low_len]
  rw [hc] at h1
  omega
theorem enc_zero {c : Conf} {L : List Step} (hc : check c = 0) (hl : L.length ≤ 200) : encErr (c, L) = 0 := by
  unfold encErr; rw [if_pos hc, if_neg (by show ¬ 20000 < L.length; omega)]
theorem all_ok {c : Conf} {L : List Step} (h15 : c.1.length = 15) (hc : check c = 0) (hl : L.length ≤ 200) (hs : ∀ s ∈ L, stepOk s) : allOk (c, L) :=
  ⟨⟨h15, hc⟩, by show L.length ≤ 20000; omega, hs⟩
end Sc
/-- what stands ahead of i in a slice of steps -/
theorem cutT {ok : Nat → Prop} {w : World} {a : Option Addr} {c : Nat} {L : List Sc.Step} (h : Sl EStp ok w a L) (i : Nat) (hi : i ≤ L.length) (hc : L.length ≤ c) :
    ∃ a', (∀ W : World, (Instr.slice 27 (.slice a L.length c) none (some (.int .i64 (i : Int))) none).run Tryd.prog W = .ok (.slice a' i c) W) ∧ Sl EStp ok w a' (L.take i) := by
  refine ⟨if c = 0 then a else a.map (·.add (0 * 4)), ?_, ?_⟩
  · obtain ⟨i0, z, hi0, hz, hsz, hby, hzc⟩ := (ti_stps).info
    intro W
    have e3 : (i : Int) ≤ (c : Int) := by omega
    have e4 : i0.size = 4 := hsz
    simp [Instr.slice, run_underlying (ti_stps).under, Instr.sliceBounds, run_sliceBound, sizeOf, typeInfo, hi0, e3]
  · have := h.cut (c := c) (i := 0) (j := i) (Nat.zero_le _) hi hc (decide (c = 0)) (by simp; omega)
    simp only [decide_eq_true_eq, List.drop_zero, Nat.sub_zero] at this
    exact this
section
variable {P : Program} {w : World} {o : Oper} {a : Act} {Q : Exit → Act → World → Prop} {ops : Array Oper} {rest : List Oper}
theorem run_app_self {α : Type} (E : Enc α) {t te ty : TypeId} {bytes base : Nat} (ti : ElemInfo P t te E.sz bytes) {g0 c : Nat} {v : Value} {l : List α} (hv : v = .slice (some ⟨g0, 0, none⟩) l.length c) (hown : Own E te base w v l) (hpos : 0 < l.length)
    (h63 : l.length + l.length ≤ maxLen) (hbytes : (l.length + l.length) * bytes ≤ 140737488355328) (hbase : base ≤ w.heap.size) :
    ∃ v' w', (Builtin.append_ #[t, t] ty #[v, .slice (some ⟨g0, 0, none⟩) l.length c]).run P w = .ok v' w' ∧ Own E te base w' v' (l ++ l) ∧ w.grownBy w' v.ownBlock ∧ (v'.ownBlock = v.ownBlock ∨ ∃ g, v'.ownBlock = some g ∧ w.heap.size ≤ g) := by
  obtain ⟨i, z, hi, hz, hsz, hby, hzc⟩ := ti.info
  obtain ⟨xs, hrow, hrep⟩ := hown.row
  obtain ⟨news, hnews⟩ : ∃ n, n = xs := ⟨_, rfl⟩
  have hn : news.length = l.length * E.sz := by rw [hnews]; exact hrow.1
  have hcells : ∀ j u, news[j]? = some u → w.cell? ((⟨g0, 0, none⟩ : Addr).add j) = some u := by rw [hnews]; exact hrow.cells (g := g0) (by rw [hv]; rfl)
  have hnrep : ∀ k x, l[k]? = some x → ∃ cs, E.rep (fun b => some b ≠ v.ownBlock) w cs x ∧ ∀ j u, cs[j]? = some u → news[k * E.sz + j]? = some u := by rw [hnews]; exact hrep
  have hone : ∀ u ∈ news, u.oneCell' = true := by
    intro u hu
    obtain ⟨q, hq, rfl⟩ := List.getElem_of_mem hu
    have hpz := ti.pos
    have hk : q / E.sz < l.length := (Nat.div_lt_iff_lt_mul hpz).2 (by rw [← hn]; exact hq)
    obtain ⟨cs, hr, hc⟩ := hnrep (q / E.sz) _ (List.getElem?_eq_getElem hk)
    have hj : q % E.sz < cs.length := by rw [E.len hr]; exact Nat.mod_lt _ hpz
    have h1 := hc (q % E.sz) _ (List.getElem?_eq_getElem hj)
    rw [Nat.div_add_mod', List.getElem?_eq_getElem hq] at h1
    injection h1 with h1
    rw [h1]
    exact E.one hr _ (List.getElem_mem hj)
  clear hnews
  obtain ⟨v', w', hr, ho, hg, hnil⟩ := run_append_own (P := P) w base t ty te i z E.sz bytes ti.under hi hz hsz hby hzc ti.pos v l.length xs hrow ⟨g0, 0, none⟩ l.length c news hn hcells hone h63 hbytes hbase
  have hv' : v'.ownBlock = v.ownBlock ∨ ∃ g, v'.ownBlock = some g ∧ w.heap.size ≤ g := by
    by_cases hroom : ∃ g cap cur, v = .slice (some ⟨g, 0, none⟩) l.length cap ∧ w.heap[g]? = some (.cells cur te (0, 0)) ∧ l.length + l.length ≤ cap ∧ cur.size = cap * E.sz
    · obtain ⟨g, cap, cur, rfl, hgg, hle, hcs⟩ := hroom
      have hfit : l.length * i.size + news.length ≤ cur.size := by rw [hn, hcs, hsz, ← Nat.add_mul]; exact Nat.mul_le_mul_right _ hle
      have hr2 := run_append_room (P := P) w t ty te i ti.under hi g l.length cap cur hgg ⟨g0, 0, none⟩ l.length c news (by rw [hsz]; exact hn) hcells hone hle hfit
      rw [hr] at hr2
      injection hr2 with e1 e2
      left; rw [e1]; rfl
    · right
      rcases hrow.2 with ⟨rfl, hz0⟩ | ⟨g, cap, cur, rfl, hbg, hgg, hnc, hcm, hcs, htake⟩
      · exact absurd hz0 (by omega)
      · have hlt : cap < l.length + l.length := by
          rcases Nat.lt_or_ge cap (l.length + l.length) with h | h
          · exact h
          · exact absurd ⟨g, cap, cur, rfl, hgg, h, hcs⟩ hroom
        have holds : ∀ j u, xs[j]? = some u → w.cell? ((⟨g, 0, none⟩ : Addr).add j) = some u := hrow.cells (g := g) rfl
        have hr2 := run_append_grow (P := P) w t ty te i z ti.under hi hz ⟨g, 0, none⟩ l.length cap xs (by rw [hsz]; exact hrow.1) holds ⟨g0, 0, none⟩ l.length c news (by rw [hsz]; exact hn) hcells (by omega) (by simp only [maxLen] at h63; omega) (by rw [hby]; exact growslice_fits (by omega) hbytes)
        rw [hr] at hr2
        injection hr2 with e1 e2
        exact ⟨w.heap.size, by rw [e1]; rfl, Nat.le_refl _⟩
  have hok : ∀ k, some k ≠ v.ownBlock → k < w.heap.size → w'.heap[k]? = w.heap[k]? ∧ some k ≠ v'.ownBlock := by
    intro k hk hlt
    refine ⟨hg.block k hlt hk, ?_⟩
    rcases hv' with e | ⟨g, e, hge⟩
    · rw [e]; exact hk
    · rw [e]; intro e2; injection e2 with e2; omega
  refine ⟨v', w', hr, ?_, hg, hv'⟩
  refine Own.of_row (xs := xs ++ news) (by rw [List.length_append]; exact ho) fun k x hx => ?_
  by_cases hkl : k < l.length
  · rw [List.getElem?_append_left hkl] at hx
    obtain ⟨cs, hcr, hcc⟩ := hrep k x hx
    refine ⟨cs, E.mono hcr hok, fun j u hj => ?_⟩
    have := hcc j u hj
    rw [List.getElem?_append_left (List.getElem?_eq_some_iff.1 this).1]; exact this
  · rw [List.getElem?_append_right (by omega)] at hx
    obtain ⟨cs, hcr, hcc⟩ := hnrep _ x hx
    refine ⟨cs, E.mono hcr hok, fun j u hj => ?_⟩
    have := hcc j u hj
    have hxl : xs.length = l.length * E.sz := hrow.1
    have e : k * E.sz + j - xs.length = (k - l.length) * E.sz + j := by
      have : k * E.sz = l.length * E.sz + (k - l.length) * E.sz := by rw [← Nat.add_mul]; congr 1; omega
      omega
    have hge : xs.length ≤ k * E.sz + j := by
      have : l.length * E.sz ≤ k * E.sz := Nat.mul_le_mul_right _ (by omega)
      omega
    rw [List.getElem?_append_right hge, e]
    exact this


theorem wpList_app_self {α : Type} (E : Enc α) {t te : TypeId} {bytes base : Nat} {s x : Operand} {v : Value} {l : List α} {g0 c : Nat}
    (hgd : o.guard = none) (ho : o.op = .call { callee := .builtin .append, args := #[s, x], argTypes := #[t, t] }) (hs : a.eval s = v) (hx : a.eval x = .slice (some ⟨g0, 0, none⟩) l.length c)
    (ti : ElemInfo P t te E.sz bytes) (hv : v = .slice (some ⟨g0, 0, none⟩) l.length c) (hown : Own E te base w v l) (hpos : 0 < l.length)
    (h63 : l.length + l.length ≤ maxLen) (hbytes : (l.length + l.length) * bytes ≤ 140737488355328) (hbase : base ≤ w.heap.size)
    (h : ∀ v' w', Own E te base w' v' (l ++ l) → Below base w w' → wpList P ops Q rest (a.put o.dst v') w') : wpList P ops Q (o :: rest) a w := by
  refine wpList_plain hgd fun K hK => ?_
  obtain ⟨v', w', hr, h2, h3, h4⟩ := run_app_self (P := P) (ty := o.type) E ti hv hown hpos h63 hbytes hbase
  unfold Oper.wp execOp
  simp only [ho, resolve, invoke, builtin, Sem.run_bind, Sem.run_pure, Result.andThen_ok, List.map_toArray, List.map_cons, List.map_nil, hs, hx, hr]
  exact hK _ _ (h v' w' h2 ((Below.refl base w).grown h3 hbase fun k hk => (hown.lt k hk).1))
end

theorem wpList_loadRowG {P : Program} {w : World} {ops : Array Oper} {rest : List Oper} {o : Oper} {a : Act} {Q : Exit → Act → World → Prop} (hw : Region.wanted o (yielded ops a.tmps) = true) (x : Operand) (ty : TypeId) (ho : o.op = .load ty x) (g : Nat) (hx : a.eval x = .pointer (some ⟨g, 0, none⟩))
    (cs : Array Value) (t : TypeId) (fr : Nat × Nat) (d : TypeDesc) (hg : w.heap[g]? = some (.cells cs t fr)) (hu : P.underlying ty = some d) (hd : (match d with | .struct _ | .array _ _ => true | _ => false) = true) (hi : (P.info? ty).map (·.size) = some cs.size)
    (h : wpList P ops Q rest (a.put o.dst (.agg cs)) w) : wpList P ops Q (o :: rest) a w :=
  BigFrame.wpList_want hw fun K hK => step_loadRow x ty ho g hx cs t fr d hg hu hd hi (hK _ _ h)
theorem wpList_eqlG {w : World} {ops : Array Oper} {rest : List Oper} {o : Oper} {a : Act} {Q : Exit → Act → World → Prop} (hw : Region.wanted o (yielded ops a.tmps) = true) (x y : Operand) (t2 : TypeId) (ho : o.op = .binOp .eql 26 x y t2)
    (c : Sc.Conf) (hx : a.eval x = .agg (confCells c)) (hy : a.eval y = .agg (confCells c))
    (h : wpList Tryd.prog ops Q rest (a.put o.dst (.bool true)) w) : wpList Tryd.prog ops Q (o :: rest) a w := by
  refine BigFrame.wpList_want hw fun K hK => ?_
  have hq : (eqGuard .eql 26 x y (.agg (confCells c)) (.agg (confCells c))).run Tryd.prog w = .ok () w := by go_simp
  have hr := eq_conf c w
  unfold Oper.wp
  simp only [execOp, ho, hx, hy, Sem.run_bind, hq, hr, Result.andThen_ok, Sem.run_pure]
  exact hK _ _ h
end Go.Proofs.YtdpopdgeipgheaaDoor

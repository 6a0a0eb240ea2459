
/-
  How far each node is from one: breadth first, with a queue that moves through its array.
-/
import Derived.Test.YticpbiccgnfecaaGraE
import Derived.Test.YticpbiccgnfecaaGraR
import Derived.ArgAppend
namespace Go.Proofs.Yticpbiccgnfecaa
open Go.RowKit
set_option linter.unusedVariables false

/-- a queue of numbers that the call owns: it may begin anywhere in its block -/
def Que (te base : Nat) (w : World) (v : Value) (l : List Int) : Prop :=
  ∃ (g o cap : Nat) (cur : Array Value), v = .slice (some ⟨g, o, none⟩) l.length cap ∧ base ≤ g ∧ w.heap[g]? = some (.cells cur te (0, 0)) ∧ l.length ≤ cap ∧ cap ≤ maxLen ∧ o + cap ≤ cur.size ∧ ∀ k x, l[k]? = some x → cur[o + k]? = some (.int .i64 x)
theorem Que.keep {te base : Nat} {w w' : World} {v : Value} {l : List Int} (h : Que te base w v l) (hb : ∀ k, base ≤ k → k < w.heap.size → w'.heap[k]? = w.heap[k]?) : Que te base w' v l := by
  obtain ⟨g, o, cap, cur, rfl, hg, hh, r⟩ := h
  exact ⟨g, o, cap, cur, rfl, hg, by rw [hb g hg (Array.getElem?_eq_some_iff.1 hh).1]; exact hh, r⟩
theorem Que.below {te base : Nat} {w w' : World} {v : Value} {l : List Int} (h : Que te base w v l) (hb : Below w.heap.size w w') : Que te base w' v l := h.keep fun k _ hk => hb.block k hk
/-- a store into an older block -/
theorem Que.setOld {te base : Nat} {w : World} {v : Value} {l : List Int} (h : Que te base w v l) {g : Nat} (hg : g < base) (k : Nat) (u : Value) : Que te base (w.setCell ⟨g, k, none⟩ u) v l :=
  h.keep fun b hb _ => heap_setOther w (by omega) _ _
theorem Que.shape {te base : Nat} {w : World} {v : Value} {l : List Int} (h : Que te base w v l) (n : Nat) (hn : n = l.length) : ∃ g o cap, v = .slice (some ⟨g, o, none⟩) n cap ∧ n ≤ cap ∧ cap ≤ maxLen ∧ (∀ k (hk : k < l.length), w.cell? ⟨g, o + k, none⟩ = some (.int .i64 l[k])) ∧ Que te base w (.slice (some ⟨g, o, none⟩) n cap) l := by
  subst hn
  obtain ⟨g, o, cap, cur, rfl, hg, hh, h1, h2, h3, h4⟩ := id h
  exact ⟨g, o, cap, rfl, h1, h2, fun k hk => by simp [World.cell?, hh, h4 k _ (List.getElem?_eq_getElem hk)], h⟩
/-- the first one away -/
theorem Que.tail {te base : Nat} {w : World} {g o n cap : Nat} {x : Int} {r : List Int} (h : Que te base w (.slice (some ⟨g, o, none⟩) n cap) (x :: r)) : Que te base w (.slice (if cap = 1 then some ⟨g, o, none⟩ else some ⟨g, o + 1, none⟩) (n - 1) (cap - 1)) r := by
  obtain ⟨g', o', cap', cur, e, hg, hh, h1, h2, h3, h4⟩ := h
  injection e with e1 e2 e3
  injection e1 with e1
  injection e1 with e1 e4
  subst e1; subst e2; subst e3; subst e4
  simp only [List.length_cons] at h1
  by_cases hc : cap = 1
  · subst hc
    have : r = [] := List.eq_nil_of_length_eq_zero (by omega)
    subst this
    refine ⟨g, o, 0, cur, by simp, hg, hh, by simp, by omega, by omega, fun k y hy => by simp at hy⟩
  · rw [if_neg hc]
    refine ⟨g, o + 1, cap - 1, cur, by simp, hg, hh, by omega, by omega, by omega, fun k y hy => ?_⟩
    have := h4 (k + 1) y (by simpa using hy)
    rw [show o + 1 + k = o + (k + 1) by omega]; exact this
theorem que_one (w : World) (x : Int) : Que 3 w.heap.size (w.alloc (.cells #[.int .i64 x] 3)) (.slice (some ⟨w.heap.size, 0, none⟩) 1 1) [x] := by
  refine ⟨w.heap.size, 0, 1, #[.int .i64 x], rfl, Nat.le_refl _, heap_alloc_new w _, Nat.le_refl _, by decide, Nat.le_refl _, fun k y hy => ?_⟩
  have hk : k = 0 := by have := (List.getElem?_eq_some_iff.1 hy).1; simp at this; exact this
  subst hk; simp at hy; subst hy; rfl
section
variable {P : Program} {w : World} {ops : Array Oper} {rest : List Oper} {o : Oper} {a : Act} {Q : Exit → Act → World → Prop}
theorem run_que_app {t te ty : TypeId} {base : Nat} (ti : ElemInfo P t te 1 8) {v : Value} {l : List Int} (h : Que te base w v l) {ad : Addr} {c : Nat} {x : Int} (hx : w.cell? ad = some (.int .i64 x)) (hsp : ad.spot = none) (h63 : l.length + 1 ≤ 1000000) (hbase : base ≤ w.heap.size) :
    ∃ v' w', (Builtin.append_ #[t, t] ty #[v, .slice (some ad) 1 c]).run P w = .ok v' w' ∧ Que te base w' v' (l ++ [x]) ∧ Below base w w' := by
  obtain ⟨i, z, hi, hz, hsz, hby, hzc⟩ := ti.info
  obtain ⟨g, o, cap, cur, rfl, hg, hh, h1, h2, h3, h4⟩ := h
  have hn : ∀ (j : Nat) (u : Value), [Value.int .i64 x][j]? = some u → w.cell? (ad.add j) = some u := by
    intro j u hj
    have hj0 : j = 0 := by have := (List.getElem?_eq_some_iff.1 hj).1; simp at this; exact this
    subst hj0
    simp at hj; subst hj
    obtain ⟨b, o', pth⟩ := ad
    subst hsp
    rw [Addr.add_lit]; exact hx
  have hone : ∀ u ∈ [Value.int .i64 x], u.oneCell' = true := by intro u hu; simp at hu; subst hu; rfl
  by_cases hr : l.length + 1 ≤ cap
  · have hcell : ∀ j, j < [Value.int .i64 x].length → (w.cell? ⟨g, o + l.length * i.size + j, none⟩).isSome = true := fun j hj => by
      have : j = 0 := by simp at hj; exact hj
      subst this
      rw [hsz]
      have hlt : o + l.length < cur.size := by omega
      simp [World.cell?, hh, hlt]
    have hrun := run_append_room_cells (P := P) (w := w) t ty te i ti.under hi g o l.length cap ad 1 c [.int .i64 x] (by rw [hsz]; rfl) hn hone hr hcell (fun j _ => by simp [World.frozen?, hh])
    refine ⟨_, _, hrun, ?_, ?_⟩
    · refine ⟨g, o, cap, cur.setIfInBounds (o + l.length) (.int .i64 x), by simp, hg, ?_, by simpa using hr, h2, by simpa using h3, fun k y hy => ?_⟩
      · rw [hsz, Nat.mul_one]
        exact heap_set hh _ _
      · by_cases hk : k < l.length
        · rw [List.getElem?_append_left hk] at hy
          rw [Array.getElem?_setIfInBounds_ne (by omega)]
          exact h4 k y hy
        · have hk2 : k = l.length := by have := (List.getElem?_eq_some_iff.1 hy).1; simp at this; omega
          subst hk2
          simp at hy; subst hy
          rw [Array.getElem?_setIfInBounds_self_of_lt (by omega)]
    · rw [hsz, Nat.mul_one]
      exact (Below.refl base w).setCell (p := ⟨g, o + l.length, none⟩) hg _
  · have holds : ∀ (j : Nat) (u : Value), (l.map (Value.int .i64))[j]? = some u → w.cell? ((⟨g, o, none⟩ : Addr).add j) = some u := by
      intro j u hj
      rw [List.getElem?_map, Option.map_eq_some_iff] at hj
      obtain ⟨y, hy, rfl⟩ := hj
      rw [Addr.add_lit]
      simp [World.cell?, hh, h4 j y hy]
    obtain ⟨v', w', hrun, ho, hgr⟩ := run_append_arg_grows (P := P) (w := w) t ty te i z 1 8 ti.under hi hz hsz hby hzc (by decide) ⟨g, o, none⟩ l.length cap (l.map (Value.int .i64)) (by simp) holds ad 1 c [.int .i64 x] rfl hn (by omega) (by unfold maxLen; omega) (by omega)
    refine ⟨v', w', hrun, ?_, ⟨hgr.os, hgr.tape, hgr.output, hgr.size, fun k hk => hgr.block k (by omega) (by simp)⟩⟩
    obtain ⟨hl, hcase⟩ := ho
    rcases hcase with ⟨_, h0⟩ | ⟨g2, cap2, cur2, rfl, hb2, hh2, k1, k2, k3, k4⟩
    · omega
    · refine ⟨g2, 0, cap2, cur2, by simp, by omega, hh2, by simpa using k1, k2, by omega, fun k y hy => ?_⟩
      have hy2 : (l.map (Value.int .i64) ++ [Value.int .i64 x])[k]? = some (.int .i64 y) := by
        have e : l.map (Value.int .i64) ++ [Value.int .i64 x] = (l ++ [x]).map (Value.int .i64) := by simp
        rw [e, List.getElem?_map, hy]; rfl
      rw [← k4, List.getElem?_take] at hy2
      split at hy2
      · rw [Nat.zero_add]; simpa using hy2
      · cases hy2
theorem wpList_que {s x : Operand} {t te : TypeId} {base : Nat} {v : Value} {l : List Int} {ad : Addr} {c : Nat} {y : Int}
    (hgd : o.guard = none) (ho : o.op = .call { callee := .builtin .append, args := #[s, x], argTypes := #[t, t] }) (hs : a.eval s = v) (hx : a.eval x = .slice (some ad) 1 c)
    (ti : ElemInfo P t te 1 8) (h : Que te base w v l) (hy : w.cell? ad = some (.int .i64 y)) (hsp : ad.spot = none) (h63 : l.length + 1 ≤ 1000000) (hbase : base ≤ w.heap.size)
    (hk : ∀ v' w', Que te base w' v' (l ++ [y]) → Below base w w' → wpList P ops Q rest (a.put o.dst v') w') : wpList P ops Q (o :: rest) a w := by
  refine wpList_plain hgd fun K hK => ?_
  obtain ⟨v', w', hr, h2, h3⟩ := run_que_app (P := P) (ty := o.type) (c := c) ti h hy hsp h63 hbase
  unfold Oper.wp execOp
  simp only [ho, resolve, invoke, builtin, Sem.run_bind, Sem.run_pure, Result.andThen_ok, List.map_toArray, List.map_cons, List.map_nil, hs, hx, hr]
  exact hK _ _ (hk v' w' h2 h3)
end
end Go.Proofs.Yticpbiccgnfecaa

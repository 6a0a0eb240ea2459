
/-
  append onto what the call owns: either it stays in its block, or all that was there stays.
-/
import Derived.Test.YtmmgnbdngpkfcaaMem
namespace Go.Proofs.Ytmmgnbdngpkfcaa
open Go.RowKit
set_option linter.unusedVariables false

section
variable {P : Program} {w : World} {ops : Array Oper} {rest : List Oper} {o : Oper} {a : Act} {Q : Exit → Act → World → Prop}

theorem run_app_old {α : Type} (E : Enc α) {t te ty : TypeId} {bytes base : Nat} (ti : ElemInfo P t te E.sz bytes) {v : Value} {l : List α} (hown : Own E te base w v l)
    {ad : Option Addr} {m c : Nat} {l2 : List α} (hm : m = l2.length) (hsl : Sl E (fun b => some b ≠ v.ownBlock) w ad l2)
    (h63 : l.length + l2.length ≤ maxLen) (hbytes : (l.length + l2.length) * bytes ≤ 140737488355328) {v' : Value} {w' : World}
    (hr : (Builtin.append_ #[t, t] ty #[v, .slice ad m c]).run P w = .ok v' w') (hpos : 0 < l2.length) : v'.ownBlock = v.ownBlock ∨ ∀ k, k < w.heap.size → w'.heap[k]? = w.heap[k]? := by
  subst hm
  obtain ⟨i, z, hi, hz, hsz, hby, hzc⟩ := ti.info
  obtain ⟨xs, hrow, hrep⟩ := hown.row
  obtain ⟨b, o', rfl, _⟩ := hsl 0 l2[0] (List.getElem?_eq_getElem hpos)
  obtain ⟨news, hn, hcells, hone, hnrep⟩ := hsl.flat ti.pos
  by_cases hroom : ∃ g cap cur, v = .slice (some ⟨g, 0, none⟩) l.length cap ∧ w.heap[g]? = some (.cells cur te (0, 0)) ∧ l.length + l2.length ≤ cap ∧ cur.size = cap * E.sz
  · obtain ⟨g, cap, cur, rfl, hgg, hle, hcs⟩ := hroom
    have hfit : l.length * i.size + news.length ≤ cur.size := by rw [hn, hcs, hsz, ← Nat.add_mul]; exact Nat.mul_le_mul_right _ hle
    have hr2 := run_append_room (P := P) w t ty te i ti.under hi g l.length cap cur hgg ⟨b, o', none⟩ l2.length c news (by rw [hsz]; exact hn) hcells hone hle hfit
    rw [hr] at hr2
    injection hr2 with e1 e2
    left; rw [e1]; rfl
  · right
    rcases hrow.2 with ⟨rfl, hz0⟩ | ⟨g, cap, cur, rfl, hbg, hgg, hnc, hcm, hcs, htake⟩
    · have hl : l = [] := List.eq_nil_of_length_eq_zero hz0
      subst hl
      have hr2 := run_append_nil (P := P) w t ty te i z ti.under hi hz ⟨b, o', none⟩ l2.length c news (by rw [hsz]; exact hn) hcells (by omega) (by simp only [maxLen] at h63; omega) (by have hb := hbytes; simp only [List.length_nil, Nat.zero_add] at hb; rw [hby]; omega)
      rw [hr] at hr2
      injection hr2 with e1 e2
      intro k hk
      rw [e2]; exact heap_alloc_old w.drew _ hk
    · have hlt : cap < l.length + l2.length := by
        rcases Nat.lt_or_ge cap (l.length + l2.length) with h | h
        · exact h
        · exact absurd ⟨g, cap, cur, rfl, hgg, h, hcs⟩ hroom
      have holds : ∀ j u, xs[j]? = some u → w.cell? ((⟨g, 0, none⟩ : Addr).add j) = some u := hrow.cells (g := g) rfl
      have hr2 := run_append_grow (P := P) w t ty te i z ti.under hi hz ⟨g, 0, none⟩ l.length cap xs (by rw [hsz]; exact hrow.1) holds ⟨b, o', none⟩ l2.length c news (by rw [hsz]; exact hn) hcells (by omega) (by simp only [maxLen] at h63; omega) (by rw [hby]; exact growslice_fits (by omega) hbytes)
      rw [hr] at hr2
      injection hr2 with e1 e2
      intro k hk
      rw [e2]; exact heap_alloc_old w.drew _ hk

/-- the law 'step_app', which tells more: what was there and isn't the owned block stays; what was owned can be read where it lay -/
theorem step_app_old {α : Type} {K : Act → World → Prop} (E : Enc α) {t te : TypeId} {bytes base : Nat} {s x : Operand} {v : Value} {l l2 : List α} {ad : Option Addr} {m c : Nat}
    (ho : o.op = .call { callee := .builtin .append, args := #[s, x], argTypes := #[t, t] }) (hs : a.eval s = v) (hx : a.eval x = .slice ad m c)
    (ti : ElemInfo P t te E.sz bytes) (hown : Own E te base w v l) (hm : m = l2.length) (hsl : Sl E (fun b => some b ≠ v.ownBlock) w ad l2)
    (h63 : l.length + l2.length ≤ maxLen) (hbytes : (l.length + l2.length) * bytes ≤ 140737488355328) (hbase : base ≤ w.heap.size) (hpos : 0 < l2.length)
    (h : ∀ v' w', Own E te base w' v' (l ++ l2) → w.grownBy w' v.ownBlock → (v'.ownBlock = v.ownBlock ∨ ∀ k, k < w.heap.size → w'.heap[k]? = w.heap[k]?) → Below base w w' → K (a.put o.dst v') w') : o.wp P a w K Q := by
  obtain ⟨v', w', hr, h2, h3, h4⟩ := run_app (P := P) (ty := o.type) E ti hown (c := c) hm hsl h63 hbytes hbase
  have h5 := run_app_old (P := P) (ty := o.type) E ti hown (c := c) hm hsl h63 hbytes hr hpos
  unfold Oper.wp execOp
  simp only [ho, resolve, invoke, builtin, Sem.run_bind, Sem.run_pure, Result.andThen_ok, List.map_toArray, List.map_cons, List.map_nil, hs, hx, hr]
  exact h v' w' h2 h3 h5 ((Below.refl base w).grown h3 hbase fun k hk => (hown.lt k hk).1)
end

/-- a number that was owned lies where it lay, behind an append -/
theorem own_int_old {te : TypeId} {base : Nat} {w w' : World} {v v' : Value} {l l2 : List Int} {g k : Nat} {x : Int} (h2 : Own EInt te base w' v' (l ++ l2)) (h5 : v'.ownBlock = v.ownBlock ∨ ∀ k, k < w.heap.size → w'.heap[k]? = w.heap[k]?)
    (hv : v.ownBlock = some g) (hx : l[k]? = some x) (hc : w.cell? ⟨g, k, none⟩ = some (.int .i64 x)) : w'.cell? ⟨g, k, none⟩ = some (.int .i64 x) := by
  rcases h5 with h5 | h5
  · rw [hv] at h5
    rcases h2 with ⟨rfl, _⟩ | ⟨g', cap, cur, rfl, hg, hh, h1, h2, h3, h4⟩
    · simp [Value.ownBlock] at h5
    · simp [Value.ownBlock] at h5
      subst h5
      have hkl := (List.getElem?_eq_some_iff.1 hx).1
      obtain ⟨cs, hr, hcc⟩ := h4 k x (by rw [List.getElem?_append_left hkl]; exact hx)
      have hr' : cs = [.int .i64 x] := hr.1
      subst hr'
      have := hcc 0 _ rfl
      simp [World.cell?, hh]
      simpa [EInt] using this
  · rw [cell_keep (h5 g (cell_lt hc))]; exact hc
end Go.Proofs.Ytmmgnbdngpkfcaa

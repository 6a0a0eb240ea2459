
/-
  append(x, make([]T, m)...): so many zero elements behind what the call owns.
-/
import Derived.Test.YtmmgnbdngpkfcaaMem
import Derived.Laws.AppendOwn
import Derived.Laws.CopyRow
namespace Go.Proofs.Ytmmgnbdngpkfcaa
open Go.RowKit
set_option linter.unusedVariables false

section
variable {P : Program} {w : World} {ops : Array Oper} {rest : List Oper} {o : Oper} {a : Act} {Q : Exit → Act → World → Prop}

theorem zeroCells_flat (z : Array Value) (m : Nat) (hz : 0 < z.size) (k j : Nat) (hk : k < m) (hj : j < z.size) : (Builtin.zeroCells z m).toList[k * z.size + j]? = z.toList[j]? := by
  have hlt : k * z.size + j < m * z.size := by
    have := Nat.mul_le_mul_right z.size (show k + 1 ≤ m by omega)
    rw [Nat.add_mul] at this; omega
  have e : (k * z.size + j) % z.size = j := by rw [Nat.mul_comm, Nat.mul_add_mod, Nat.mod_eq_of_lt hj]
  simp [Builtin.zeroCells, hlt, e, hj]

theorem run_app0 {α : Type} (E : Enc α) {t te ty tu : TypeId} {ku : IntKind} {bytes base : Nat} (ti : ElemInfo P t te E.sz bytes) (hu : P.underlying tu = some (.int ku)) {x0 : α}
    (hz0 : ∀ i z, P.info? te = some i → i.zero = some z → ∀ ok W, E.rep ok W z.cells.toList x0) {v : Value} {l : List α} (hown : Own E te base w v l) (m : Nat) (hm0 : 0 < m)
    (h63 : l.length + m ≤ maxLen) (hbytes : (l.length + m) * bytes ≤ 140737488355328) (hbase : base ≤ w.heap.size) :
    ∃ v' w', (Builtin.append_ #[t, tu] ty #[v, .int .i64 m]).run P w = .ok v' w' ∧ Own E te base w' v' (l ++ List.replicate m x0) ∧ w.grownBy w' v.ownBlock ∧ (v'.ownBlock = v.ownBlock ∨ ∃ g, v'.ownBlock = some g ∧ w.heap.size ≤ g) := by
  obtain ⟨i, z, hi, hz, hsz, hby, hzc⟩ := ti.info
  have hpos := ti.pos
  have hlm : m ≤ 9223372036854775807 := by have : maxLen = 9223372036854775807 := rfl; omega
  have hwrap : IntKind.i64.wrap (m : Int) = m := IntWalk.i64_in _ (by omega)
  have hn0 : ¬ ((m : Int) < 0) := by omega
  have hai : ∀ W, (asInt (.int .i64 (m : Int))).run P W = .ok (m : Int) W := fun _ => rfl
  have hmb : m * i.bytes ≤ 140737488355328 := by rw [hby]; exact Nat.le_trans (Nat.mul_le_mul_right _ (Nat.le_add_left _ _)) hbytes
  have hbb : ¬ ((281474976710656 : Int) < (m : Int) * (i.bytes : Int)) := by
    have : (m : Int) * (i.bytes : Int) ≤ 140737488355328 := by rw [← Int.natCast_mul]; exact Int.ofNat_le.2 hmb
    omega
  have hms : ¬ (m * i.size = 0) := by rw [hsz]; exact Nat.ne_of_gt (Nat.mul_pos hm0 hpos)
  have hrepl : ∀ ok W k x, (List.replicate m x0)[k]? = some x → ∃ cs, E.rep ok W cs x ∧ ∀ j u, cs[j]? = some u → (Builtin.zeroCells z.cells m).toList[k * E.sz + j]? = some u := by
    intro ok W k x hx
    obtain ⟨hk, rfl⟩ := List.getElem?_eq_some_iff.1 hx
    have hk' : k < m := by simpa using hk
    refine ⟨z.cells.toList, by rw [List.getElem_replicate]; exact hz0 i z hi hz ok W, fun j u hj => ?_⟩
    have hj2 : j < z.cells.size := by simpa using (List.getElem?_eq_some_iff.1 hj).1
    rw [← hzc, zeroCells_flat z.cells m (by omega) k j hk' hj2]; exact hj
  have h63' : l.length + m ≤ 9223372036854775807 := by have : maxLen = 9223372036854775807 := rfl; omega
  -- the new block
  have grown : ∀ (old : Nat) (xs : List Value), old < l.length + m → xs.length = l.length * E.sz → (∀ k x, l[k]? = some x → ∃ cs, E.rep (fun b => some b ≠ v.ownBlock) w cs x ∧ ∀ j u, cs[j]? = some u → xs[k * E.sz + j]? = some u) → (∀ b, v.ownBlock = some b → b < w.heap.size) →
      Own E te base (w.drew.alloc (.cells (xs.toArray ++ Builtin.zeroCells z.cells m ++ Builtin.zeroCells z.cells (grownCap w (l.length + m) old te - (l.length + m))) te)) (.slice (some ⟨w.heap.size, 0, none⟩) (l.length + m) (grownCap w (l.length + m) old te)) (l ++ List.replicate m x0) := by
    intro old xs ho hxs hrep hbl
    have hge := grownCap_ge w (l.length + m) old te
    have hcm : grownCap w (l.length + m) old te ≤ maxLen := grownCap_le_maxLen w (l.length + m) old te h63
    refine .inr ⟨w.heap.size, _, _, by simp, hbase, heap_alloc_new w.drew _, by simpa using hge, hcm, ?_, fun k x hx => ?_⟩
    · simp only [Array.size_append, List.size_toArray, size_zeroCells, hzc, hxs, ← Nat.add_mul]
      congr 1; omega
    · by_cases hkl : k < l.length
      · rw [List.getElem?_append_left hkl] at hx
        obtain ⟨cs, hcr, hcc⟩ := hrep k x hx
        refine ⟨cs, E.mono hcr fun b hb hlt => ⟨Below.heap_alloc w.drew _ b hlt, by omega⟩, fun j u hj => ?_⟩
        have h1 := hcc j u hj
        have h2 := (List.getElem?_eq_some_iff.1 h1).1
        rw [Array.getElem?_append_left (by simp; omega), Array.getElem?_append_left (by simpa using h2)]
        simpa using h1
      · rw [List.getElem?_append_right (by omega)] at hx
        obtain ⟨cs, hcr, hcc⟩ := hrepl (fun b => b ≠ w.heap.size) (w.drew.alloc (.cells (xs.toArray ++ Builtin.zeroCells z.cells m ++ Builtin.zeroCells z.cells (grownCap w (l.length + m) old te - (l.length + m))) te)) _ _ hx
        refine ⟨cs, hcr, fun j u hj => ?_⟩
        have h1 := hcc j u hj
        have h2 := (List.getElem?_eq_some_iff.1 h1).1
        have e : k * E.sz + j - xs.length = (k - l.length) * E.sz + j := by
          have : k * E.sz = l.length * E.sz + (k - l.length) * E.sz := by rw [← Nat.add_mul]; congr 1; omega
          omega
        have hge2 : xs.length ≤ k * E.sz + j := by
          have : l.length * E.sz ≤ k * E.sz := Nat.mul_le_mul_right _ (by omega)
          omega
        rw [← e] at h1 h2
        simp only [Array.length_toList] at h2
        rw [Array.getElem?_append_left (by simp only [Array.size_append, List.size_toArray]; omega), Array.getElem?_append_right (by simpa using hge2)]
        simpa using h1
  rcases hown with ⟨rfl, rfl⟩ | ⟨g, cap, cur, rfl, hg, hh, h1, h2, h3, h4⟩
  · have hk1 : ¬ (9223372036854775807 < (m : Int)) := by omega
    have hk2 : ¬ (281474976710656 < Builtin.nextslicecap m 0 * i.bytes) := by rw [nextslicecap_zero hm0]; omega
    have hm1 : m ≠ 0 := by omega
    have hgr := grown 0 [] (by simp; omega) (by simp) (fun k x hx => by simp at hx) (fun b hb => by simp [Value.ownBlock] at hb)
    simp only [List.length_nil, Nat.zero_add, List.nil_append] at hgr ⊢
    refine ⟨_, _, ?_, hgr, ⟨rfl, rfl, rfl, by simp, fun k hk _ => Below.heap_alloc w.drew _ k hk⟩, .inr ⟨w.heap.size, rfl, Nat.le_refl _⟩⟩
    simp [Builtin.append_, run_underlying ti.under, run_underlying hu, sizeOf, typeInfo, zeroValue, hai, hi, hz, hwrap, hn0, hbb, hms, hm1, hk1, hk2, Question.forced, Builtin.firstCells, newRow, grownCap]
  · by_cases hroom : l.length + m ≤ cap
    · have hzl : (Builtin.zeroCells z.cells m).toList.length = m * E.sz := by rw [Array.length_toList, size_zeroCells, hzc]
      have hfit : l.length * i.size + (Builtin.zeroCells z.cells m).toList.length ≤ cur.size := by rw [hzl, h3, hsz, ← Nat.add_mul]; exact Nat.mul_le_mul_right _ hroom
      have hone : ∀ u ∈ (Builtin.zeroCells z.cells m).toList, u.oneCell' = true := by
        intro u hu
        obtain ⟨j, hj, rfl⟩ := List.getElem_of_mem hu
        simp only [Builtin.zeroCells, Array.toList_map, List.getElem_map] at hj ⊢
        have hr := E.one (hz0 i z hi hz (fun _ => True) w)
        apply hr
        generalize hq : (Array.range (m * z.cells.size)).toList[j]'(by simpa using hj) = q
        have hlt : q % z.cells.size < z.cells.size := Nat.mod_lt _ (by omega)
        rw [getElem!_pos z.cells _ hlt]
        exact Array.getElem_mem_toList _
      have hst := run_storeCells_at P g (l.length * i.size) te (Builtin.zeroCells z.cells m).toList 0 cur w hh (by simpa using hfit) hone
      simp only [Nat.add_zero] at hst
      refine ⟨.slice (some ⟨g, 0, none⟩) (l.length + m) cap, w.setRow g (cur.toList.take (l.length * i.size) ++ (Builtin.zeroCells z.cells m).toList ++ cur.toList.drop (l.length * i.size + (Builtin.zeroCells z.cells m).toList.length)).toArray, ?_, .inr ⟨g, cap, _, by simp, hg, setRow_heap w g cur _ te _ hh, by simpa using hroom, h2, ?_, fun k x hx => ?_⟩, ⟨rfl, rfl, rfl, by simp, fun k _ hk => setRow_other w g k _ (fun e => hk (by simp [Value.ownBlock, e]))⟩, .inl rfl⟩
      · simp [Builtin.append_, run_underlying ti.under, run_underlying hu, sizeOf, typeInfo, zeroValue, hai, hi, hz, hwrap, hn0, hbb, hms, hroom, Addr.add_lit, hst]
      · simp only [List.size_toArray, List.length_append, List.length_take, List.length_drop, Array.length_toList]
        simp only [Array.length_toList] at hfit
        omega
      · have hlc : l.length * E.sz ≤ cur.size := by rw [h3]; exact Nat.mul_le_mul_right _ h1
        have htl : (cur.toList.take (l.length * i.size)).length = l.length * E.sz := by rw [hsz]; simp; omega
        by_cases hkl : k < l.length
        · rw [List.getElem?_append_left hkl] at hx
          obtain ⟨cs, hcr, hcc⟩ := h4 k x hx
          refine ⟨cs, E.mono hcr fun b hb hlt => ⟨setRow_other w g b _ hb, hb⟩, fun j u hj => ?_⟩
          have hj2 : j < E.sz := by rw [← E.len hcr]; exact (List.getElem?_eq_some_iff.1 hj).1
          have hlt : k * E.sz + j < l.length * E.sz := by
            have := Nat.mul_le_mul_right E.sz (show k + 1 ≤ l.length by omega)
            rw [Nat.add_mul] at this; omega
          rw [List.getElem?_toArray, List.append_assoc, List.getElem?_append_left (by omega), List.getElem?_take, if_pos (by rw [hsz]; exact hlt)]
          simpa using hcc j u hj
        · rw [List.getElem?_append_right (by omega)] at hx
          obtain ⟨cs, hcr, hcc⟩ := hrepl (fun b => b ≠ g) (w.setRow g (cur.toList.take (l.length * i.size) ++ (Builtin.zeroCells z.cells m).toList ++ cur.toList.drop (l.length * i.size + (Builtin.zeroCells z.cells m).toList.length)).toArray) _ _ hx
          refine ⟨cs, hcr, fun j u hj => ?_⟩
          have h5 := hcc j u hj
          have h6 := (List.getElem?_eq_some_iff.1 h5).1
          have e : k * E.sz + j - l.length * E.sz = (k - l.length) * E.sz + j := by
            have : k * E.sz = l.length * E.sz + (k - l.length) * E.sz := by rw [← Nat.add_mul]; congr 1; omega
            omega
          have hge2 : l.length * E.sz ≤ k * E.sz + j := by
            have : l.length * E.sz ≤ k * E.sz := Nat.mul_le_mul_right _ (by omega)
            omega
          rw [List.getElem?_toArray, List.append_assoc, List.getElem?_append_right (by omega), htl, e, List.getElem?_append_left h6]
          exact h5
    · have hn : ¬ (l.length + m ≤ cap) := hroom
      have hk1 : ¬ (9223372036854775807 < ((l.length : Int) + (m : Int))) := by omega
      have hfit := growslice_fits (old := cap) (need := l.length + m) (by omega) hbytes
      have hk2 : ¬ (281474976710656 < Builtin.nextslicecap (l.length + m) cap * i.bytes) := by rw [hby]; omega
      have hxl : (cur.toList.take (l.length * E.sz)).length = l.length * E.sz := by
        have : l.length * E.sz ≤ cur.size := by rw [h3]; exact Nat.mul_le_mul_right _ h1
        simp; omega
      have hfo := run_firstCells_some (P := P) w.drew i.size l.length ⟨g, 0, none⟩ l.length cap (cur.toList.take (l.length * E.sz)) (by rw [hxl, hsz]) (fun j u hj => by
        rw [List.getElem?_take] at hj
        split at hj
        · have hh' : w.drew.heap[g]? = some (.cells cur te (0, 0)) := hh
          rw [Addr.add_lit]; simp [World.cell?, hh']; simpa using hj
        · cases hj)
      have hgr := grown cap (cur.toList.take (l.length * E.sz)) (by omega) hxl (fun k x hx => by
        obtain ⟨cs, hcr, hcc⟩ := h4 k x hx
        refine ⟨cs, E.mono hcr fun b hb _ => ⟨rfl, by simp [Value.ownBlock]; exact hb⟩, fun j u hj => ?_⟩
        have hkl : k < l.length := (List.getElem?_eq_some_iff.1 hx).1
        have hj2 : j < E.sz := by rw [← E.len hcr]; exact (List.getElem?_eq_some_iff.1 hj).1
        have hlt : k * E.sz + j < l.length * E.sz := by
          have := Nat.mul_le_mul_right E.sz (show k + 1 ≤ l.length by omega)
          rw [Nat.add_mul] at this; omega
        rw [List.getElem?_take, if_pos hlt]
        simpa using hcc j u hj) (fun b hb => by
        simp [Value.ownBlock] at hb; subst hb; exact (Array.getElem?_eq_some_iff.1 hh).1)
      refine ⟨_, _, ?_, hgr, ⟨rfl, rfl, rfl, by simp, fun k hk _ => Below.heap_alloc w.drew _ k hk⟩, .inr ⟨w.heap.size, rfl, Nat.le_refl _⟩⟩
      have hcz : i.size = z.cells.size := by omega
      simp [Builtin.append_, run_underlying ti.under, run_underlying hu, sizeOf, typeInfo, zeroValue, hai, hi, hz, hwrap, hn0, hbb, hms, hn, hk1, hk2, hfo, Question.forced, newRow, grownCap]

/-- the same as a law for the walk -/
theorem wpList_app0 {α : Type} (E : Enc α) {t te tu : TypeId} {ku : IntKind} {bytes base : Nat} {s x : Operand} {v : Value} {l : List α} {m : Nat} {mi : Int}
    (hgd : o.guard = none) (ho : o.op = .call { callee := .builtin .append, args := #[s, x], argTypes := #[t, tu] }) (hs : a.eval s = v) (hx : a.eval x = .int .i64 mi) (hmi : mi = m)
    (ti : ElemInfo P t te E.sz bytes) (hu : P.underlying tu = some (.int ku)) {x0 : α} (hz0 : ∀ i z, P.info? te = some i → i.zero = some z → ∀ ok W, E.rep ok W z.cells.toList x0) (hown : Own E te base w v l) (hm0 : 0 < m)
    (h63 : l.length + m ≤ maxLen) (hbytes : (l.length + m) * bytes ≤ 140737488355328) (hbase : base ≤ w.heap.size)
    (h : ∀ v' w', Own E te base w' v' (l ++ List.replicate m x0) → w.grownBy w' v.ownBlock → (v'.ownBlock = v.ownBlock ∨ ∃ g, v'.ownBlock = some g ∧ w.heap.size ≤ g) → Below base w w' → wpList P ops Q rest (a.put o.dst v') w') : wpList P ops Q (o :: rest) a w := by
  subst hmi
  refine wpList_plain hgd fun K hK => ?_
  obtain ⟨v', w', hr, h2, h3, h4⟩ := run_app0 (P := P) (ty := o.type) E ti hu hz0 hown m hm0 h63 hbytes hbase
  unfold Oper.wp execOp
  simp only [ho, resolve, invoke, builtin, Sem.run_bind, Sem.run_pure, Result.andThen_ok, List.map_toArray, List.map_cons, List.map_nil, hs, hx, hr]
  exact hK _ _ (h v' w' h2 h3 h4 ((Below.refl base w).grown h3 hbase fun k hk => (hown.lt k hk).1))
end

end Go.Proofs.Ytmmgnbdngpkfcaa
